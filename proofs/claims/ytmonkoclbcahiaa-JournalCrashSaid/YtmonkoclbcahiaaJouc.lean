/- Chapter 6: JournalCrash, all its texts in one (a claim holds at most 60 files). -/
import Derived.Test.YtmonkoclbcahiaaJoub
import Derived.Test.YtmonkoclbcahiaaSlotM
import Derived.Deep.AppendLies
import Derived.Laws.OwnMore
import Derived.Deep.RegionHeld3
import Derived.Deep.DeepCutAuto
import Derived.Deep.CutBlock
namespace Go.Proofs.Ytmonkoclbcahiaa.Jour
open Go.RowKit Go.Proofs.Ytmonkoclbcahiaa.Hp Go.Proofs.Ytmonkoclbcahiaa.By Go.Proofs.Ytmonkoclbcahiaa.Disk Go.Proofs.Ytmonkoclbcahiaa.Word Go.Proofs.Ytmonkoclbcahiaa.WordP Go.Proofs.Ytmonkoclbcahiaa.Log Go.Proofs.Ytmonkoclbcahiaa.Slot
set_option linter.unusedVariables false
set_option linter.unusedSimpArgs false
/-- what a sector may say behind a crash that tears nothing -/
def PV (s : DSt) (j : Nat) (v : List Int) : Prop := v = s.sure j ∨ s.loose j = some v
theorem pv_io {s : DSt} {n : Int} {j : Nat} {v : List Int} (h : PV (s.io n) j v) : PV s j v := by
  unfold DSt.io at h
  split at h
  · exact h
  · exact h
theorem pv_put {s : DSt} {n : Nat} {l : List Int} {j : Nat} {v : List Int} (h : PV (s.put n l) j v) : PV s j v ∨ (j = n ∧ v = l) := by
  rcases h with h | h
  · exact .inl (.inl h)
  · have h' : (if j = n then some l else s.loose j) = some v := h
    by_cases c : j = n
    · rw [if_pos c] at h'
      exact .inr ⟨c, (Option.some.inj h').symm⟩
    · rw [if_neg c] at h'
      exact .inl (.inr h')
theorem pv_wr {s : DSt} {n : Int} {l : List Int} {j : Nat} {v : List Int} (h : PV (s.wr n l) j v) : PV s j v ∨ (j = n.toNat ∧ v = l) := by
  unfold DSt.wr at h
  split at h
  · split at h
    · rcases pv_put h with h | h
      · exact .inl (pv_io h)
      · exact .inr h
    · exact .inl (pv_io h)
  · exact .inl h
theorem pv_sureAll {s : DSt} {j : Nat} {v : List Int} (h : PV s.sureAll j v) : PV s j v := by
  rcases h with h | h
  · have h' : v = (s.loose j).getD (s.sure j) := h
    cases e : s.loose j with
    | none => rw [e] at h'; exact .inl h'
    | some x => rw [e] at h'; exact .inr (by rw [e, h']; rfl)
  · exact absurd h (by simp [DSt.sureAll])
theorem pv_fl {s : DSt} {j : Nat} {v : List Int} (h : PV s.fl j v) : PV s j v := by
  unfold DSt.fl at h
  split at h
  · exact pv_sureAll (s := { s with num := s.num.work.1 }) h
  · exact h
theorem pv_app {s : DSt} {n : Int} {l : List Int} {j : Nat} {v : List Int} (h : PV (appS s n l) j v) : PV s j v ∨ (j = n.toNat ∧ v = l) := by
  unfold appS at h
  split at h
  · exact pv_wr (pv_fl h)
  · exact pv_wr h
theorem pv_wrN {s : DSt} {a : Nat} {pg : Nat → List Int} {j : Nat} {v : List Int} : ∀ k, PV (wrN s a pg k) j v → PV s j v ∨ (a + 1 ≤ j ∧ j < a + 1 + k ∧ ∃ i, v = pg i)
  | 0, h => .inl h
  | k + 1, h => by
    rcases pv_wr (s := wrN s a pg k) (n := (a : Int) + 1 + k) (l := pg k) h with h | ⟨h, h'⟩
    · rcases pv_wrN k h with h | h
      · exact .inl h
      · exact .inr ⟨h.1, by omega, h.2.2⟩
    · exact .inr ⟨by omega, by omega, k, h'⟩
theorem pv_saves {s s' : DSt} {gen E : Int} {l : List Int} (hl : l.length ≤ 960) (h : Saves s gen l E s') {j : Nat} {v : List Int} (hv : PV s' j v) : PV s j v ∨ (aN gen < j ∧ j ≤ aN gen + 15 ∧ v.length = 64) ∨ (j = aN gen ∧ v = headL gen l) := by
  have hp := pagesN_le hl
  have ea := aN_eq gen
  have wn : ∀ k, k ≤ 15 → PV (wrN s (slotAt gen) (page l) k) j v → PV s j v ∨ (aN gen < j ∧ j ≤ aN gen + 15 ∧ v.length = 64) := fun k hk h => by
    rw [ea] at h
    rcases pv_wrN k h with h | h
    · exact .inl h
    · obtain ⟨a, b, i, e⟩ := h
      exact .inr ⟨by omega, by omega, by rw [e]; exact page_len _ _⟩
  have up : (PV s j v ∨ (aN gen < j ∧ j ≤ aN gen + 15 ∧ v.length = 64)) → PV s j v ∨ (aN gen < j ∧ j ≤ aN gen + 15 ∧ v.length = 64) ∨ (j = aN gen ∧ v = headL gen l) := fun h => h.elim .inl (fun x => .inr (.inl x))
  rcases h with ⟨k, hk, _, _, _, rfl⟩ | ⟨_, h⟩
  · exact up (wn _ (by omega) hv)
  · rcases h with ⟨_, _, rfl⟩ | ⟨_, _, rfl⟩
    · exact up (wn _ hp (pv_fl hv))
    · rcases pv_app hv with hv | ⟨h1, h2⟩
      · exact up (wn _ hp (pv_fl hv))
      · exact .inr (.inr ⟨by omega, h2⟩)
theorem pv_crash {s : DSt} {keep torn : Int} {j : Nat} (hl : ∀ v, PV s j v → v.length = 64) : PV s j ((s.crash keep torn).get (j : Int)) ∨ (0 < torn ∧ torn < 64) := by
  have e : (s.crash keep torn).get (j : Int) = (if (crashAt keep s.looseL s.looseL.length).1 j then (s.loose j).getD (s.sure j) else if (crashAt keep s.looseL s.looseL.length).2 = some j then ((s.loose j).getD (s.sure j)).take (cut64 torn) ++ (s.sure j).drop (cut64 torn) else s.sure j) := rfl
  have hg : PV s j ((s.loose j).getD (s.sure j)) := by
    cases e : s.loose j with
    | none => exact .inl rfl
    | some x => exact .inr (by rw [e]; rfl)
  rw [e]
  by_cases c1 : (crashAt keep s.looseL s.looseL.length).1 j = true
  · rw [if_pos c1]; exact .inl hg
  · rw [if_neg c1]
    by_cases c2 : (crashAt keep s.looseL s.looseL.length).2 = some j
    · rw [if_pos c2]
      by_cases t0 : 0 < torn
      · by_cases t1 : torn < 64
        · exact .inr ⟨t0, t1⟩
        · have ec : cut64 torn = 64 := by unfold cut64; omega
          rw [ec, List.take_of_length_le (by have := hl _ hg; omega), List.drop_of_length_le (by have := hl _ (.inl rfl : PV s j (s.sure j)); omega), List.append_nil]
          exact .inl hg
      · have ec : cut64 torn = 0 := by unfold cut64; omega
        rw [ec, List.take_zero, List.drop_zero, List.nil_append]
        exact .inl (.inl rfl)
    · rw [if_neg c2]; exact .inl (.inl rfl)
end Go.Proofs.Ytmonkoclbcahiaa.Jour

namespace Go.Proofs.Ytmonkoclbcahiaa.Jour
open Go.RowKit Go.Proofs.Ytmonkoclbcahiaa.Hp Go.Proofs.Ytmonkoclbcahiaa.By Go.Proofs.Ytmonkoclbcahiaa.Disk Go.Proofs.Ytmonkoclbcahiaa.Word Go.Proofs.Ytmonkoclbcahiaa.WordP Go.Proofs.Ytmonkoclbcahiaa.Log Go.Proofs.Ytmonkoclbcahiaa.Slot
set_option linter.unusedVariables false
set_option linter.unusedSimpArgs false
def Old (g : Int) (j : Nat) (v : List Int) : Prop := v = List.replicate 64 0 ∨ ∃ (g' : Int) (p : List Int), 0 ≤ g' ∧ g' < g ∧ p.length ≤ 50 ∧ v = secL g' j p
def OldHead (g : Int) (v : List Int) : Prop := v = List.replicate 64 0 ∨ (0 < g ∧ ∃ b, v = headL (g - 1) b)
structure JInv (s : DSt) (g : Int) (base : List Int) (ws AP : List (List Int)) (RB : List (List Int)) : Prop where
  n : s.n = 192
  len : ∀ j v, PV s j v → v.length = 64
  g0 : 0 ≤ g
  w64 : ws.length ≤ 64
  w50 : ∀ p ∈ ws, p.length ≤ 50
  a50 : ∀ p ∈ AP, p.length ≤ 50
  r960 : ∀ b ∈ RB, b.length ≤ 960
  recs : ∀ j v, j < ws.length → PV s j v → v = secL g j (ws.getD j [])
  rest : ∀ j v, ws.length ≤ j → j < 64 → PV s j v → Old g j v ∨ (j = ws.length ∧ ∃ p ∈ AP, v = secL g j p)
  slot : ∃ F : Nat → List Int, (∀ j v, aN g ≤ j → j < aN g + 16 → PV s j v → v = F j) ∧ (g = 0 → base = [] ∧ ∀ j, aN g ≤ j → j < aN g + 16 → F j = List.replicate 64 0) ∧ (0 < g → ∀ w : Nat, w < 2 → (w : Int) = g % 2 → oneOf F w = some (g, base))
  head : ∀ v, PV s (aN (g + 1)) v → OldHead g v ∨ ∃ b ∈ RB, v = headL (g + 1) b
theorem jinv_new (a b c : Int) : JInv (((DSt.new 192).failing a b).fusing c) 0 [] [] [] [] := by
  have hz : ∀ j v, PV (((DSt.new 192).failing a b).fusing c) j v → v = List.replicate 64 0 := fun j v h => by
    rcases h with h | h
    · exact h
    · exact absurd h (by simp [DSt.fusing, DSt.failing, DSt.new])
  exact ⟨rfl, fun j v h => by rw [hz j v h]; simp, Int.le_refl _, by simp, fun p hp => (by cases hp), fun p hp => (by cases hp), fun p hp => (by cases hp), fun j v hj => by simp at hj, fun j v _ _ h => .inl (.inl (hz j v h)), ⟨fun _ => List.replicate 64 0, fun j v _ _ h => hz j v h, fun _ => ⟨rfl, fun _ _ _ => rfl⟩, fun h => by omega⟩, fun v h => .inl (.inl (hz _ v h))⟩
theorem aN_other (g : Int) : aN (g + 1) + aN g = 144 := by
  rcases aN_rng g with ⟨a, b⟩ | ⟨a, b⟩ <;> rcases aN_rng (g + 1) with ⟨c, d⟩ | ⟨c, d⟩ <;> omega
/-- an append was tried -/
theorem jinv_try {s : DSt} {g : Int} {base : List Int} {ws AP RB : List (List Int)} (h : JInv s g base ws AP RB) (p : List Int) (hp : p.length ≤ 50) (hw : ws.length < 64) : JInv (appS s (ws.length : Int) (secL g ws.length p)) g base ws (AP ++ [p]) RB := by
  have pv : ∀ j v, PV (appS s (ws.length : Int) (secL g ws.length p)) j v → PV s j v ∨ (j = ws.length ∧ v = secL g ws.length p) := fun j v hv => by
    have := pv_app hv; rwa [Int.toNat_natCast] at this
  have ha := aN_rng g
  have hb := aN_rng (g + 1)
  have hn : (appS s (ws.length : Int) (secL g ws.length p)).n = 192 := by
    unfold appS
    split
    · rw [fl_n, wr_n, h.n]
    · rw [wr_n, h.n]
  obtain ⟨F, f1, f2, f3⟩ := h.slot
  refine ⟨hn, fun j v hv => ?_, h.g0, h.w64, h.w50, fun q hq => ?_, h.r960, fun j v hj hv => ?_, fun j v h1 h2 hv => ?_, ⟨F, fun j v h1 h2 hv => ?_, f2, f3⟩, fun v hv => ?_⟩
  · rcases pv j v hv with x | ⟨_, x⟩
    · exact h.len j v x
    · rw [x]; exact secL_len g _ p hp
  · rcases List.mem_append.mp hq with x | x
    · exact h.a50 q x
    · rw [List.mem_singleton] at x; rw [x]; exact hp
  · rcases pv j v hv with x | ⟨x, _⟩
    · exact h.recs j v hj x
    · omega
  · rcases pv j v hv with x | ⟨x, y⟩
    · rcases h.rest j v h1 h2 x with z | ⟨z, q, hq, z2⟩
      · exact .inl z
      · exact .inr ⟨z, q, List.mem_append_left _ hq, z2⟩
    · exact .inr ⟨x, p, List.mem_append_right _ (List.mem_singleton.mpr rfl), by rw [y, x]⟩
  · rcases pv j v hv with x | ⟨x, _⟩
    · exact f1 j v h1 h2 x
    · omega
  · rcases pv _ v hv with x | ⟨x, _⟩
    · exact h.head v x
    · omega
/-- a sector that was written and flushed -/
theorem app_ok {s : DSt} {n : Nat} {l : List Int} (hn : n < s.n) (hl : l.length = 64) (h : appE s (n : Int) l = 0) : (∀ v, PV (appS s (n : Int) l) n v → v = l) ∧ ∀ j, (appS s (n : Int) l).loose j = none := by
  unfold appE at h
  by_cases c : s.wrE (n : Int) l.length = 0
  · rw [if_pos c] at h
    have e : appS s (n : Int) l = ({ s.wr (n : Int) l with num := (s.wr (n : Int) l).num.work.1 } : DSt).sureAll := by
      unfold appS
      rw [if_pos c]
      unfold DSt.fl
      rw [if_pos (show (s.wr (n : Int) l).num.work.2 = 0 from h)]
    have ei : s.ioE (n : Int) = 0 := by unfold DSt.wrE at c; rwa [if_pos hl] at c
    have ew : (s.wr (n : Int) l).loose n = some l := by
      unfold DSt.wr
      rw [if_pos hl, if_pos ei, Int.toNat_natCast]
      show (if n = n then some l else (s.io (n : Int)).loose n) = some l
      rw [if_pos rfl]
    rw [e]
    refine ⟨fun v hv => ?_, fun j => rfl⟩
    rcases hv with hv | hv
    · have h' : v = ((s.wr (n : Int) l).loose n).getD ((s.wr (n : Int) l).sure n) := hv
      rw [h', ew]; rfl
    · exact absurd hv (by simp [DSt.sureAll])
  · rw [if_neg c] at h
    exact absurd h c
/-- an append was done -/
theorem jinv_done {s : DSt} {g : Int} {base : List Int} {ws AP : List (List Int)} (h : JInv s g base ws AP []) (p : List Int) (hp : p.length ≤ 50) (hw : ws.length < 64) (hE : appE s (ws.length : Int) (secL g ws.length p) = 0) : JInv (appS s (ws.length : Int) (secL g ws.length p)) g base (ws ++ [p]) [] [] := by
  have ht := jinv_try h p hp hw
  obtain ⟨o1, _⟩ := app_ok (by rw [h.n]; omega) (secL_len g _ p hp) hE
  refine ⟨ht.n, ht.len, ht.g0, by simp; omega, fun q hq => ?_, fun q hq => (by cases hq), fun q hq => (by cases hq), fun j v hj hv => ?_, fun j v h1 h2 hv => ?_, ht.slot, ht.head⟩
  · rcases List.mem_append.mp hq with x | x
    · exact h.w50 q x
    · rw [List.mem_singleton] at x; rw [x]; exact hp
  · rw [List.length_append, List.length_singleton] at hj
    rw [getD_snoc]
    by_cases c : j = ws.length
    · subst c; rw [if_pos rfl]; exact o1 v hv
    · rw [if_neg c]; exact ht.recs j v (by omega) hv
  · rw [List.length_append, List.length_singleton] at h1
    rcases ht.rest j v (by omega) h2 hv with x | ⟨x, _⟩
    · exact .inl x
    · omega
/-- a Rebase was tried -/
theorem jinv_reb {s s' : DSt} {g E : Int} {base l : List Int} {ws AP RB : List (List Int)} (h : JInv s g base ws AP RB) (hl : l.length ≤ 960) (hS : Saves s (g + 1) l E s') : JInv s' g base ws AP (RB ++ [l]) := by
  have pv : ∀ j v, PV s' j v → PV s j v ∨ (aN (g + 1) < j ∧ j ≤ aN (g + 1) + 15 ∧ v.length = 64) ∨ (j = aN (g + 1) ∧ v = headL (g + 1) l) := fun j v hv => pv_saves hl hS hv
  have ha := aN_rng g
  have hb := aN_rng (g + 1)
  have hab := aN_other g
  obtain ⟨F, f1, f2, f3⟩ := h.slot
  refine ⟨(saves_n hS).trans h.n, fun j v hv => ?_, h.g0, h.w64, h.w50, h.a50, fun q hq => ?_, fun j v hj hv => ?_, fun j v h1 h2 hv => ?_, ⟨F, fun j v h1 h2 hv => ?_, f2, f3⟩, fun v hv => ?_⟩
  · rcases pv j v hv with x | x | ⟨_, x⟩
    · exact h.len j v x
    · exact x.2.2
    · rw [x]; exact headL_len _ _
  · rcases List.mem_append.mp hq with x | x
    · exact h.r960 q x
    · rw [List.mem_singleton] at x; rw [x]; exact hl
  · have := h.w64
    rcases pv j v hv with x | x | ⟨x, _⟩
    · exact h.recs j v hj x
    · omega
    · omega
  · rcases pv j v hv with x | x | ⟨x, _⟩
    · exact h.rest j v h1 h2 x
    · omega
    · omega
  · rcases pv j v hv with x | x | ⟨x, _⟩
    · exact f1 j v h1 h2 x
    · omega
    · omega
  · rcases pv _ v hv with x | x | ⟨_, x⟩
    · rcases h.head v x with y | ⟨b, y1, y2⟩
      · exact .inl y
      · exact .inr ⟨b, List.mem_append_left _ y1, y2⟩
    · omega
    · exact .inr ⟨l, List.mem_append_right _ (List.mem_singleton.mpr rfl), x⟩
theorem wr_sure (s : DSt) (n : Int) (l : List Int) (j : Nat) : (s.wr n l).sure j = s.sure j := by
  unfold DSt.wr
  split
  · split
    · show (s.io n).sure j = _
      unfold DSt.io; split <;> rfl
    · unfold DSt.io; split <;> rfl
  · rfl
theorem wr_get_at (s : DSt) (n : Nat) (l : List Int) (hn : n < s.n) (hl : l.length = 64) (h : s.wrE (n : Int) 64 = 0) : (s.wr (n : Int) l).get (n : Int) = l := by
  have ei : s.ioE (n : Int) = 0 := by unfold DSt.wrE at h; rwa [if_pos rfl] at h
  unfold DSt.wr
  rw [if_pos hl, if_pos ei, Int.toNat_natCast]
  exact get_put n l
theorem wrN_get_at {s : DSt} {a : Nat} {pg : Nat → List Int} (hp : ∀ k, (pg k).length = 64) : ∀ k, a + 1 + k ≤ s.n → (∀ i, i < k → (wrN s a pg i).wrE ((a : Int) + 1 + i) 64 = 0) → ∀ j, a + 1 ≤ j → j < a + 1 + k → (wrN s a pg k).get (j : Int) = pg (j - (a + 1))
  | 0, _, _, j, h1, h2 => by omega
  | k + 1, hk, hE, j, h1, h2 => by
    show ((wrN s a pg k).wr ((a : Int) + 1 + k) (pg k)).get (j : Int) = _
    by_cases c : j = a + 1 + k
    · have e := wr_get_at (wrN s a pg k) (a + 1 + k) (pg k) (by rw [wrN_n]; omega) (hp k) (by have := hE k (by omega); rwa [show ((a + 1 + k : Nat) : Int) = (a : Int) + 1 + k by omega])
      rw [show ((a + 1 + k : Nat) : Int) = (a : Int) + 1 + k by omega] at e
      rw [c, show ((a + 1 + k : Nat) : Int) = (a : Int) + 1 + k by omega, e]
      congr 1; omega
    · rw [wr_get _ _ _ _ (by omega)]
      exact wrN_get_at hp k (by omega) (fun i hi => hE i (by omega)) j h1 (by omega)
/-- a Save that was done, on any disk -/
theorem saves_ok {s s' : DSt} {gen : Int} {l : List Int} (hn : s.n = 192) (hl : l.length ≤ 960) (h : Saves s gen l 0 s') : (∀ j, s'.loose j = none) ∧ s'.sure (aN gen) = headL gen l ∧ ∀ j, aN gen + 1 ≤ j → j < aN gen + 1 + pagesN l → s'.sure j = page l (j - (aN gen + 1)) := by
  have hp := pagesN_le hl
  have ha := aN_rng gen
  have ea := aN_eq gen
  rcases h with ⟨k, hk, _, _, h3, _⟩ | ⟨hE, h⟩
  · exact absurd rfl h3
  · rcases h with ⟨_, h2, _⟩ | ⟨h1, h2, rfl⟩
    · exact absurd rfl h2
    · rw [ea] at hE h1 h2 ⊢
      have hnn : (wrN s ((aN gen : Nat) : Int) (page l) (pagesN l)).fl.n = 192 := by rw [fl_n, wrN_n, hn]
      obtain ⟨o1, o2⟩ := app_ok (by rw [hnn]; omega) (headL_len gen l) h2.symm
      refine ⟨o2, (o1 _ (.inl rfl)), fun j j1 j2 => ?_⟩
      have e1 : ∀ t : DSt, t.loose j = none → t.sure j = t.get (j : Int) := fun t ht => by
        show _ = (t.loose ((j : Nat) : Int).toNat).getD (t.sure ((j : Nat) : Int).toNat)
        rw [Int.toNat_natCast, ht]; rfl
      rw [e1 _ (o2 j)]
      have e2 : (appS (wrN s ((aN gen : Nat) : Int) (page l) (pagesN l)).fl ((aN gen : Nat) : Int) (headL gen l)).get (j : Int) = (wrN s ((aN gen : Nat) : Int) (page l) (pagesN l)).get (j : Int) := by
        unfold appS
        split
        · rw [fl_get, wr_get _ _ _ _ (by omega), fl_get]
        · rw [wr_get _ _ _ _ (by omega), fl_get]
      rw [e2]
      exact wrN_get_at (page_len l) _ (by rw [hn]; omega) hE j j1 j2
/-- a Rebase was done -/
theorem jinv_rebased {s s' : DSt} {g : Int} {base l : List Int} {ws AP RB : List (List Int)} (h : JInv s g base ws AP RB) (g1 : g + 1 < 4294967296) (hl : l.length ≤ 960) (hS : Saves s (g + 1) l 0 s') : JInv s' (g + 1) l [] [] [] := by
  have ht := jinv_reb h hl hS
  obtain ⟨o1, o2, o3⟩ := saves_ok h.n hl hS
  have hp := pagesN_le hl
  have ha := aN_rng g
  have hb := aN_rng (g + 1)
  have hab := aN_other g
  have hab2 := aN_other (g + 1)
  have g0 := h.g0
  have sv : ∀ j v, PV s' j v → v = s'.sure j := fun j v hv => by
    rcases hv with x | x
    · exact x
    · rw [o1] at x; cases x
  obtain ⟨F, f1, f2, f3⟩ := ht.slot
  refine ⟨ht.n, ht.len, by omega, by simp, fun p hp => (by cases hp), fun p hp => (by cases hp), fun p hp => (by cases hp), fun j v hj => by simp at hj, fun j v _ h2 hv => .inl ?_, ⟨fun j => s'.sure j, fun j v _ _ hv => sv j v hv, fun x => by omega, fun _ w hw2 hw => ?_⟩, fun v hv => ?_⟩
  · by_cases c : j < ws.length
    · exact .inr ⟨g, ws.getD j [], g0, by omega, h.w50 _ (by rw [List.getD_eq_getElem?_getD, List.getElem?_eq_getElem c]; exact List.getElem_mem _), ht.recs j v c hv⟩
    · rcases ht.rest j v (by omega) h2 hv with x | ⟨_, p, p1, p2⟩
      · rcases x with x | ⟨g', p, a, b, c', d⟩
        · exact .inl x
        · exact .inr ⟨g', p, a, by omega, c', d⟩
      · exact .inr ⟨g, p, g0, by omega, h.a50 p p1, p2⟩
  · have e := one_saved (fun j => s'.sure j) (g + 1) l (by omega) g1 hl w hw
    rw [← e]
    refine (one_congr fun j j1 j2 => ?_).symm
    unfold savedF
    by_cases c : j = aN (g + 1)
    · rw [if_pos c, c, o2]
    · rw [if_neg c]
      by_cases c2 : aN (g + 1) + 1 ≤ j ∧ j < aN (g + 1) + 1 + pagesN l
      · rw [if_pos c2, o3 j c2.1 c2.2]
      · rw [if_neg c2]
  · have ev := f1 (aN (g + 1 + 1)) v (by omega) (by omega) hv
    have ea : aN (g + 1 + 1) = aN g := by omega
    by_cases c : g = 0
    · left; left
      rw [ev]; exact (f2 c).2 _ (by omega) (by omega)
    · left; right
      refine ⟨by omega, base, ?_⟩
      obtain ⟨w, hw2, hw⟩ : ∃ w : Nat, w < 2 ∧ (w : Int) = g % 2 := ⟨(g % 2).toNat, by omega, by omega⟩
      have := one_head (f3 (by omega) w hw2 hw)
      rw [ev, ea, show aN g = 64 + 16 * w by omega, this]
      show headL g base = headL (g + 1 - 1) base
      congr 1; omega
end Go.Proofs.Ytmonkoclbcahiaa.Jour

namespace Go.Proofs.Ytmonkoclbcahiaa.Jour
open Go.RowKit Go.Proofs.Ytmonkoclbcahiaa.Hp Go.Proofs.Ytmonkoclbcahiaa.By Go.Proofs.Ytmonkoclbcahiaa.Disk Go.Proofs.Ytmonkoclbcahiaa.Word Go.Proofs.Ytmonkoclbcahiaa.WordP Go.Proofs.Ytmonkoclbcahiaa.Log Go.Proofs.Ytmonkoclbcahiaa.Slot
set_option linter.unusedVariables false
set_option linter.unusedSimpArgs false
theorem one_len {f : Nat → List Int} {w : Nat} {q : Int × List Int} (h : oneOf f w = some q) : q.2.length ≤ 960 := by
  unfold oneOf at h
  split at h
  · cases h
  · rename_i c
    split at h
    · obtain rfl := Option.some.inj h
      show ((cat f (64 + 16 * w + 1) _).take _).length ≤ 960
      rw [List.length_take]
      omega
    · cases h
theorem head_len_eq {g : Int} {b c : List Int} (hb : b.length ≤ 960) (hc : c.length ≤ 960) (h : headL g b = headL g c) : b.length = c.length := by
  have e1 := head_num g b
  rw [h, head_num g c] at e1
  have := digs_inj (a := (c.length : Int)) (b := (b.length : Int)) (by omega) (by omega) e1
  omega
theorem old_none {g g2 : Int} {j : Nat} {v : List Int} (hj : j < 64) (g0 : 0 ≤ g) (h2 : g ≤ g2) (g1 : g2 < 4294967296) (h : Old g j v) : recOf v g2 j = none := by
  rcases h with rfl | ⟨g', p, a, b, c, rfl⟩
  · exact none_zero ⟨by omega, g1⟩ j (by omega)
  · exact rec_other c ⟨a, by omega⟩ ⟨by omega, g1⟩ (by omega)
/-- what is loaded and read -/
def Found (g : Int) (base : List Int) (ws AP RB : List (List Int)) (G : Int) (bb : List Int) (l : List (List Int)) : Prop :=
  (G = g ∧ bb = base ∧ (l = ws ∨ ∃ p ∈ AP, l = ws ++ [p])) ∨ (l = [] ∧ G = g + 1 ∧ ∃ b ∈ RB, bb.length = b.length ∧ headL G bb = headL G b)
theorem jinv_found {s : DSt} {g : Int} {base : List Int} {ws AP RB : List (List Int)} (h : JInv s g base ws AP RB) (g1 : g + 1 < 4294967296) {f : Nat → List Int} (hf : ∀ j, PV s j (f j)) {s2 : DSt} (hs2 : Says s2 f) (k : Nat) (hk : k ≤ 64)
    (q1 : ∀ j : Nat, j < k → (recOf (s2.get (j : Int)) (loadOf f).1 j).isSome = true) (q2 : k = 64 ∨ recOf (s2.get (k : Int)) (loadOf f).1 k = none) : Found g base ws AP RB (loadOf f).1 (loadOf f).2 (recs s2 (loadOf f).1 k) := by
  have g0 := h.g0
  have ha := aN_rng g
  have hb := aN_rng (g + 1)
  have hab := aN_other g
  obtain ⟨F, f1, f2, f3⟩ := h.slot
  obtain ⟨w, hw2, hw⟩ : ∃ w : Nat, w < 2 ∧ (w : Int) = g % 2 := ⟨(g % 2).toNat, by omega, by omega⟩
  have ewa : 64 + 16 * w = aN g := by omega
  have ewb : 64 + 16 * (1 - w) = aN (g + 1) := by omega
  have eF : oneOf f w = oneOf F w := one_congr fun j j1 j2 => f1 j (f j) (by omega) (by omega) (hf j)
  have ow : (g = 0 ∧ base = [] ∧ oneOf f w = none) ∨ (0 < g ∧ oneOf f w = some (g, base)) := by
    by_cases c : g = 0
    · exact .inl ⟨c, (f2 c).1, by rw [eF]; exact one_zeros hw2 (by rw [ewa]; exact (f2 c).2 _ (by omega) (by omega))⟩
    · exact .inr ⟨by omega, by rw [eF]; exact f3 (by omega) w hw2 hw⟩
  -- the other slot's
  have oo : (∀ q, oneOf f (1 - w) = some q → 0 < g ∧ q.1 = g - 1) ∨ ∃ b ∈ RB, f (aN (g + 1)) = headL (g + 1) b := by
    rcases h.head _ (hf (aN (g + 1))) with x | x
    · left
      intro q hq
      rcases x with x | ⟨x0, b, x⟩
      · rw [one_zeros (by omega) (by rw [ewb]; exact x)] at hq; cases hq
      · exact ⟨x0, one_gen (g := g - 1) (b := b) (by omega) (by omega) (by rw [ewb]; exact x) hq⟩
    · exact .inr x
  have stay : (∀ q, oneOf f (1 - w) = some q → q.1 < g) → loadOf f = (g, base) := fun hq => by
    rcases ow with ⟨c, cb, o⟩ | ⟨c, o⟩
    · have hw0 : w = 0 := by omega
      subst hw0
      unfold loadOf
      rw [o]
      cases e : oneOf f 1 with
      | none => rw [c, cb]; rfl
      | some q =>
        have e2 := hq q e
        have := hf 0
        exfalso
        rcases oo with o2 | ⟨b, _, o2⟩
        · have := o2 q e; omega
        · have := one_gen (g := g + 1) (b := b) (by omega) g1 (by rw [ewb]; exact o2) e
          omega
    · exact load_two w hw2 g0 o hq
  have atg : loadOf f = (g, base) → Found g base ws AP RB (loadOf f).1 (loadOf f).2 (recs s2 (loadOf f).1 k) := fun e => by
    rw [e] at q1 q2 ⊢
    left
    refine ⟨rfl, rfl, ?_⟩
    have some_j : ∀ j, j < ws.length → recOf (f j) g j = some (ws.getD j []) := fun j hj => by
      rw [h.recs j _ hj (hf j)]
      exact rec_sec g j _ (h.w50 _ (by rw [List.getD_eq_getElem?_getD, List.getElem?_eq_getElem hj]; exact List.getElem_mem _))
    have recsw : recs s2 g ws.length = ws := by
      have hl : (recs s2 g ws.length).length = ws.length := recs_len _ _ _
      apply List.ext_getElem?
      intro j
      by_cases c : j < ws.length
      · rw [recs_recsF]
        unfold recsF
        rw [List.getElem?_map, List.getElem?_range c]
        simp only [Option.map_some]
        rw [hs2.2.2, some_j j c, List.getD_eq_getElem?_getD, List.getElem?_eq_getElem c]; rfl
      · rw [List.getElem?_eq_none (by omega), List.getElem?_eq_none (by omega)]
    by_cases c64 : ws.length = 64
    · have : k = 64 := stop_at hs2 hk q1 q2 64 (by omega) (fun j hj => by rw [some_j j (by omega)]; rfl) (.inl rfl)
      left; rw [this, ← c64]; exact recsw
    · rcases h.rest ws.length _ (Nat.le_refl _) (by have := h.w64; omega) (hf ws.length) with x | ⟨_, p, p1, p2⟩
      · have : k = ws.length := stop_at hs2 hk q1 q2 ws.length h.w64 (fun j hj => by rw [some_j j hj]; rfl) (.inr (old_none (by have := h.w64; omega) g0 (Int.le_refl g) (by omega) x))
        left; rw [this]; exact recsw
      · have hr : recOf (f ws.length) g ws.length = some p := by rw [p2]; exact rec_sec g _ p (h.a50 p p1)
        have hkk : k = ws.length + 1 := stop_at hs2 hk q1 q2 (ws.length + 1) (by have := h.w64; omega) (fun j hj => by
          by_cases c : j < ws.length
          · rw [some_j j c]; rfl
          · obtain rfl : j = ws.length := by omega
            rw [hr]; rfl) (by
          by_cases c : ws.length + 1 = 64
          · exact .inl c
          · right
            rcases h.rest (ws.length + 1) _ (by omega) (by have := h.w64; omega) (hf _) with y | ⟨y, _⟩
            · exact old_none (by have := h.w64; omega) g0 (Int.le_refl g) (by omega) y
            · omega)
        right
        refine ⟨p, p1, ?_⟩
        rw [hkk, recs_snoc s2 g ws.length p (by rw [hs2.2.2]; exact hr), recsw]
  rcases oo with oo | ⟨b, hb1, hb2⟩
  · exact atg (stay fun q hq => by have := oo q hq; omega)
  · cases e : oneOf f (1 - w) with
    | none => exact atg (stay fun q hq => by rw [e] at hq; cases hq)
    | some q =>
      have hq1 := one_gen (g := g + 1) (b := b) (by omega) g1 (by rw [ewb]; exact hb2) e
      obtain ⟨qg, qb⟩ := q
      have hq1' : qg = g + 1 := hq1
      subst hq1'
      have hld : loadOf f = (g + 1, qb) := load_two (1 - w) (by omega) (by omega) e (fun q hq => by
        have ew : 1 - (1 - w) = w := by omega
        rw [ew] at hq
        rcases ow with ⟨_, _, o⟩ | ⟨_, o⟩
        · rw [o] at hq; cases hq
        · rw [o] at hq
          obtain rfl := Option.some.inj hq
          show g < g + 1
          omega)
      have hhd : headL (g + 1) qb = headL (g + 1) b := by
        have := one_head e
        rw [← this, ewb]; exact hb2
      rw [hld] at q1 q2 ⊢
      right
      have h0 : recOf (f 0) (g + 1) ((0 : Nat) : Int) = none := by
        by_cases c : 0 < ws.length
        · rw [h.recs 0 _ c (hf 0)]
          exact rec_other (h.w50 _ (by rw [List.getD_eq_getElem?_getD, List.getElem?_eq_getElem c]; exact List.getElem_mem _)) ⟨g0, by omega⟩ ⟨by omega, g1⟩ (by omega)
        · rcases h.rest 0 _ (by omega) (by decide) (hf 0) with x | ⟨_, p, p1, p2⟩
          · exact old_none (by decide) g0 (by omega) g1 x
          · rw [p2]; exact rec_other (h.a50 p p1) ⟨g0, by omega⟩ ⟨by omega, g1⟩ (by omega)
      have hk0 : k = 0 := stop_at hs2 hk q1 q2 0 (by decide) (fun j hj => by omega) (.inr h0)
      exact ⟨by rw [hk0]; rfl, rfl, b, hb1, head_len_eq (one_len e) (h.r960 b hb1) hhd, hhd⟩
end Go.Proofs.Ytmonkoclbcahiaa.Jour

namespace Go.Proofs.Ytmonkoclbcahiaa.Jour
open Go.RowKit Go.Proofs.Ytmonkoclbcahiaa.Hp Go.Proofs.Ytmonkoclbcahiaa.By Go.Proofs.Ytmonkoclbcahiaa.Disk Go.Proofs.Ytmonkoclbcahiaa.Word Go.Proofs.Ytmonkoclbcahiaa.WordP Go.Proofs.Ytmonkoclbcahiaa.Log Go.Proofs.Ytmonkoclbcahiaa.Slot
set_option linter.unusedVariables false
set_option linter.unusedSimpArgs false
abbrev Sta := List Int × List (List Int)
/-- one of them -/
def StOf (w : World) (v1 v2 : Value) (st : Sta) : Prop :=
  ∃ B cB C cC, v1 = .slice B st.1.length cB ∧ v2 = .slice C st.2.length cC ∧ Rd w .u8 B st.1 ∧ Log.Rows w C st.2 ∧ (B = none → cB = 0) ∧ Bytes st.1 ∧ st.1.length ≤ 960 ∧ st.2.length ≤ 65
theorem StOf.keep {w w' : World} {v1 v2 : Value} {st : Sta} (h : StOf w v1 v2 st) (hc : Chg NoB w w') : StOf w' v1 v2 st := by
  obtain ⟨B, cB, C, cC, e1, e2, e3, e4, e5⟩ := h
  exact ⟨B, cB, C, cC, e1, e2, e3.chg hc (fun _ _ _ x => x), e4.keep hc, e5⟩
/-- a slice of them -/
def StRows (w : World) (A : Option Addr) (sts : List Sta) : Prop :=
  ∀ i, i < sts.length → ∃ ad v1 v2, A = some ad ∧ w.cell? (ad.add (i * 2)) = some v1 ∧ w.cell? ⟨(ad.add (i * 2)).block, (ad.add (i * 2)).off + 1, none⟩ = some v2 ∧ StOf w v1 v2 (sts.getD i ([], []))
theorem StRows.keep {w w' : World} {A : Option Addr} {sts : List Sta} (h : StRows w A sts) (hc : Chg NoB w w') : StRows w' A sts := fun i hi => by
  obtain ⟨ad, v1, v2, e1, e2, e3, e4⟩ := h i hi
  exact ⟨ad, v1, v2, e1, hc.cell e2 (fun x => x), hc.cell e3 (fun x => x), e4.keep hc⟩
def OneRel (w : World) (sts : List Sta) (x : Sta) (i : Value) (wr : World) : Prop := ∃ k : Nat, k ≤ sts.length ∧ i = .int .i64 k ∧ (∀ y ∈ sts.take k, y ≠ x) ∧ Chg NoB w wr
theorem takeS_succ (xs : List Sta) (j : Nat) (h : j < xs.length) : xs.take (j + 1) = xs.take j ++ [xs.getD j ([], [])] := by
  rw [List.take_add_one]
  simp [h]
set_option maxRecDepth 100000 in
set_option maxHeartbeats 1000000 in
theorem one_any (Ab Al A : Option Addr) (cb cl c : Nat) (b : List Int) (l : List (List Int)) (sts : List Sta) (w : World) (hb : Rd w .u8 Ab b) (hl : Log.Rows w Al l) (hl64 : l.length ≤ 64) (h : StRows w A sts) (hs : sts.length ≤ 200) :
    Calls Try.prog 31 #[.slice Ab b.length cb, .slice Al l.length cl, .slice A sts.length c] w (RetB (decide ((b, l) ∈ sts)) w) := by
  obtain ⟨n, hn⟩ : ∃ n, n = sts.length := ⟨_, rfl⟩
  rw [← hn] at hs ⊢
  have HN := Lib.hid hn
  have HB := Lib.hid (And.intro hb (And.intro hl (And.intro hl64 h)))
  generalize hR : decide ((b, l) ∈ sts) = R
  have HR := Lib.hid hR
  clear hn hb hl hl64 h hR
  go_enter Try.func31, Try.ntmps31
  go_wp2_with fail
  go_loopw [7] (fun i wr => OneRel w sts (b, l) i wr) (fun i wr => (n - intOf i).toNat)
  case atStart => exact ⟨0, by omega, rfl, by simp, Chg.refl _ _⟩
  case round =>
    obtain ⟨k, hk, rfl, ht, hC⟩ := hrel
    have hk2 : k ≤ n := by have := HN.out; omega
    clear hk
    by_cases hlt : k < n
    · have hltp : k < sts.length := by have := HN.out; omega
      obtain ⟨ad, v1, v2, rfl, x1, x2, B, cB, C, cC, rfl, rfl, r1, r2, r3, _, _, r6⟩ := (HB.out.2.2.2.keep hC) k hltp
      have hsn := takeS_succ sts k hltp
      have hmem : sts.getD k ([], []) ∈ sts := by rw [List.getD_eq_getElem?_getD, List.getElem?_eq_getElem hltp]; exact List.getElem_mem _
      have st : sts.getD k ([], []) ≠ (b, l) → ∀ w', Chg NoB wr w' → OneRel w sts (b, l) (.int .i64 ((k : Int) + 1)) w' := fun he w' hc => ⟨k + 1, hltp, rfl, fun y hy => by
        rw [hsn] at hy
        rcases List.mem_append.mp hy with hy | hy
        · exact ht y hy
        · rw [List.mem_singleton] at hy; rw [hy]; exact he, hC.trans hc (fun _ _ x => x)⟩
      have yes : sts.getD k ([], []) = (b, l) → ∀ w', Chg NoB wr w' → RetB R w (.returned (.bool true)) w' := fun he w' hc => ⟨by rw [← HR.out, decide_eq_true (by rw [← he]; exact hmem)], hC.trans hc (fun _ _ x => x)⟩
      have s1 := same_any Ab B cb cB b (sts.getD k ([], [])).1 wr (HB.out.1.chg hC (fun _ _ _ x => x)) r1
      have s2 := fun w' (hc : Chg NoB wr w') => sameAll_any Al C cl cC l (sts.getD k ([], [])).2 w' ((HB.out.2.1.keep hC).keep hc) (r2.keep hc) (by have := HB.out.2.2.1; omega) (by omega)
      generalize sts.getD k ([], []) = q at *
      obtain ⟨q1, q2⟩ := q
      dsimp only at s1 s2 x1 x2 r6
      have SS := Lib.hid (And.intro st (And.intro yes s2))
      clear st yes s2 r1 r2 r3 r6 hsn hmem hltp ht HB HR HN
      by_cases e1 : b = q1
      · rw [decide_eq_true e1] at s1
        by_cases e2 : l = q2
        · have s2 := fun w' hc => SS.out.2.2 w' hc
          rw [decide_eq_true e2] at s2
          have yes := SS.out.2.1 (by rw [e1, e2])
          have S2 := Lib.hid (And.intro s2 yes)
          clear s2 yes e1 e2 SS
          have HC := Lib.hid hC
          clear hC
          go_wp2_with (first | ((with_reducible refine s1.mono ?_); rintro e w2 ⟨rfl, hC2⟩; have s2 := S2.out.1 w2 hC2; have y1 := hC2.cell x1 (fun x => x); have y2 := hC2.cell x2 (fun x => x)) | ((with_reducible refine s2.mono ?_); rintro e w3 ⟨rfl, hC3⟩; have fin := S2.out.2 w3 (hC2.trans hC3 (fun _ _ x => x))) | go_in)
          go_ret
          exact fin
        · have s2 := fun w' hc => SS.out.2.2 w' hc
          rw [decide_eq_false e2] at s2
          have no := SS.out.1 (by rw [e1]; intro x; exact e2 (Prod.mk.inj x).2.symm)
          have S2 := Lib.hid (And.intro s2 no)
          clear s2 no e1 e2 SS
          have HC := Lib.hid hC
          clear hC
          go_wp2_with (first | ((with_reducible refine s1.mono ?_); rintro e w2 ⟨rfl, hC2⟩; have s2 := S2.out.1 w2 hC2; have y1 := hC2.cell x1 (fun x => x); have y2 := hC2.cell x2 (fun x => x)) | ((with_reducible refine s2.mono ?_); rintro e w3 ⟨rfl, hC3⟩; have fin := S2.out.2 w3 (hC2.trans hC3 (fun _ _ x => x))) | go_in)
          exact ⟨fin, by simp [intOf]; omega⟩
      · rw [decide_eq_false e1] at s1
        have no := SS.out.1 (fun x => e1 (Prod.mk.inj x).1.symm)
        have S2 := Lib.hid no
        clear no e1 SS
        have HC := Lib.hid hC
        clear hC
        go_wp2_with (first | ((with_reducible refine s1.mono ?_); rintro e w2 ⟨rfl, hC2⟩; have fin := S2.out w2 hC2) | go_in)
        exact ⟨fin, by simp [intOf]; omega⟩
    · have fin : RetB R w (.returned (.bool false)) wr := by
        rw [List.take_of_length_le (by have := HN.out; omega)] at ht
        exact ⟨by rw [← HR.out, decide_eq_false (fun x => ht _ x rfl)], hC⟩
      obtain rfl : k = n := by omega
      clear hC ht HB HR HN
      go_wp2_with fail
      go_ret
      exact fin
def clashB (gen : Int) (b : List Int) (st : Sta) : Bool := decide (b.length = st.1.length) && !decide (b = st.1) && decide (headL gen b = headL gen st.1)
def ClRel (w : World) (gen : Int) (b : List Int) (sts : List Sta) (i : Value) (wr : World) : Prop := ∃ k : Nat, k ≤ sts.length ∧ i = .int .i64 k ∧ (∀ y ∈ sts.take k, clashB gen b y = false) ∧ Chg NoB w wr
set_option maxRecDepth 100000 in
set_option maxHeartbeats 1000000 in
theorem clash_any (gen : Int) (Ab A : Option Addr) (cb c : Nat) (b : List Int) (sts : List Sta) (w : World) (g0 : 0 ≤ gen) (g1 : gen < 4294967296) (hb : Rd w .u8 Ab b) (hbb : Bytes b) (hbl : b.length ≤ 960) (h : StRows w A sts) (hs : sts.length ≤ 200) :
    Calls Try.prog 32 #[.int .u32 gen, .slice Ab b.length cb, .slice A sts.length c] w (RetB (sts.any (clashB gen b)) w) := by
  obtain ⟨n, hn⟩ : ∃ n, n = sts.length := ⟨_, rfl⟩
  rw [← hn] at hs ⊢
  have HN := Lib.hid hn
  have HB := Lib.hid (And.intro hb (And.intro hbb (And.intro hbl h)))
  generalize hR : sts.any (clashB gen b) = R
  have HR := Lib.hid hR
  clear hn hb hbb hbl h hR
  go_enter Try.func32, Try.ntmps32
  go_wp2_with fail
  go_loopw [7] (fun i wr => ClRel w gen b sts i wr) (fun i wr => (n - intOf i).toNat)
  case atStart => exact ⟨0, by omega, rfl, by simp, Chg.refl _ _⟩
  case round =>
    obtain ⟨k, hk, rfl, ht, hC⟩ := hrel
    have hk2 : k ≤ n := by have := HN.out; omega
    clear hk
    by_cases hlt : k < n
    · have hltp : k < sts.length := by have := HN.out; omega
      obtain ⟨ad, v1, v2, rfl, x1, x2, B, cB, C, cC, rfl, rfl, r1, r2, r3, r4, r5, r6⟩ := (HB.out.2.2.2.keep hC) k hltp
      have hsn := takeS_succ sts k hltp
      have hmem : sts.getD k ([], []) ∈ sts := by rw [List.getD_eq_getElem?_getD, List.getElem?_eq_getElem hltp]; exact List.getElem_mem _
      have st : clashB gen b (sts.getD k ([], [])) = false → ∀ w', Chg NoB wr w' → ClRel w gen b sts (.int .i64 ((k : Int) + 1)) w' := fun he w' hc => ⟨k + 1, hltp, rfl, fun y hy => by
        rw [hsn] at hy
        rcases List.mem_append.mp hy with hy | hy
        · exact ht y hy
        · rw [List.mem_singleton] at hy; rw [hy]; exact he, hC.trans hc (fun _ _ x => x)⟩
      have yes : clashB gen b (sts.getD k ([], [])) = true → ∀ w', Chg NoB wr w' → RetB R w (.returned (.bool true)) w' := fun he w' hc => ⟨by rw [← HR.out, List.any_eq_true.mpr ⟨_, hmem, he⟩], hC.trans hc (fun _ _ x => x)⟩
      have rb := HB.out.1.chg hC (fun _ _ _ x => x)
      have s1 := fun w' (hc : Chg NoB wr w') => same_any Ab B cb cB b (sts.getD k ([], [])).1 w' (rb.chg hc (fun _ _ _ x => x)) (r1.chg hc (fun _ _ _ x => x))
      have s2 := fun w' (hc : Chg NoB wr w') (hp : 0 < b.length) => rhead_any gen Ab cb b w' g0 g1 (by have := HB.out.2.2.1; omega) (rb.chg hc (fun _ _ _ x => x)) HB.out.2.1 (fun e => by obtain ⟨ad, q, _⟩ := HB.out.1.2 hp; rw [q] at e; cases e)
      have s3 := fun w' (hc : Chg NoB wr w') => rhead_any gen B cB (sts.getD k ([], [])).1 w' g0 g1 (by omega) (r1.chg hc (fun _ _ _ x => x)) r4 r3
      have s4 := fun w' A1 c1 A2 c2 (h1 : Rd w' .u8 A1 (headL gen b)) (h2 : Rd w' .u8 A2 (headL gen (sts.getD k ([], [])).1)) => same_any A1 A2 c1 c2 _ _ w' h1 h2
      have hcl : clashB gen b (sts.getD k ([], [])) = (decide (b.length = (sts.getD k ([], [])).1.length) && !decide (b = (sts.getD k ([], [])).1) && decide (headL gen b = headL gen (sts.getD k ([], [])).1)) := rfl
      rw [headL_len, headL_len] at s4
      generalize clashB gen b (sts.getD k ([], [])) = CB at *
      generalize sts.getD k ([], []) = q at *
      obtain ⟨q1, q2⟩ := q
      dsimp only at s1 s2 s3 s4 x1 x2 hcl r5
      have SS := Lib.hid (And.intro st (And.intro yes (And.intro s1 (And.intro s2 (And.intro s3 s4)))))
      clear st yes s1 s2 s3 s4 r1 r2 r3 r4 r6 rb hsn hmem hltp ht HB HR HN
      have HC := Lib.hid hC
      clear hC
      by_cases e0 : b.length = q1.length
      · have d0 : ((b.length : Int) == (q1.length : Int)) = true := by rw [beq_iff_eq]; omega
        by_cases e1 : b = q1
        · have s1 := fun w' hc => SS.out.2.2.1 w' hc
          rw [decide_eq_true e1] at s1
          have no := SS.out.1 (by rw [hcl, decide_eq_true e1]; simp)
          have S2 := Lib.hid (And.intro s1 no)
          have s1 := S2.out.1 wr (Chg.refl _ _)
          clear no hcl SS e1 e0
          go_wp2_with (first | ((with_reducible refine s1.mono ?_); rintro e w2 ⟨rfl, hC2⟩; have fin := S2.out.2 w2 hC2) | go_in)
          exact ⟨fin, by simp [intOf]; omega⟩
        · have s1 := fun w' hc => SS.out.2.2.1 w' hc
          rw [decide_eq_false e1] at s1
          have s4 := SS.out.2.2.2.2.2
          have bp : 0 < b.length := by
            rcases Nat.eq_zero_or_pos b.length with z | z
            · exact absurd ((List.length_eq_zero_iff.mp z).trans (List.length_eq_zero_iff.mp (e0 ▸ z)).symm) e1
            · exact z
          by_cases e2 : headL gen b = headL gen q1
          · rw [decide_eq_true e2] at s4
            have yes := SS.out.2.1 (by rw [hcl, decide_eq_true e0, decide_eq_false e1, decide_eq_true e2]; rfl)
            have S2 := Lib.hid (And.intro s1 (And.intro (fun w' hc => SS.out.2.2.2.1 w' hc bp) (And.intro SS.out.2.2.2.2.1 (And.intro s4 yes))))
            have s1 := S2.out.1 wr (Chg.refl _ _)
            clear yes hcl SS e1 e0 s4 e2 bp
            go_wp2_with (first | ((with_reducible refine s1.mono ?_); rintro e w2 ⟨rfl, hC2⟩; have s2 := S2.out.2.1 w2 hC2) | ((with_reducible refine s2.mono ?_); rintro e w3 ⟨A3, c3, rfl, h3, hC3⟩; have s3 := S2.out.2.2.1 w3 (hC2.trans hC3 (fun _ _ x => x))) | ((with_reducible refine s3.mono ?_); rintro e w4 ⟨A4, c4, rfl, h4, hC4⟩; have s4 := S2.out.2.2.2.1 w4 A3 c3 A4 c4 (h3.chg hC4 (fun _ _ _ x => x)) h4) | ((with_reducible refine s4.mono ?_); rintro e w5 ⟨rfl, hC5⟩; have fin := S2.out.2.2.2.2 w5 (((hC2.trans hC3 (fun _ _ x => x)).trans hC4 (fun _ _ x => x)).trans hC5 (fun _ _ x => x))) | go_in)
            go_ret
            exact fin
          · rw [decide_eq_false e2] at s4
            have no := SS.out.1 (by rw [hcl, decide_eq_true e0, decide_eq_false e1, decide_eq_false e2]; rfl)
            have S2 := Lib.hid (And.intro s1 (And.intro (fun w' hc => SS.out.2.2.2.1 w' hc bp) (And.intro SS.out.2.2.2.2.1 (And.intro s4 no))))
            have s1 := S2.out.1 wr (Chg.refl _ _)
            clear no hcl SS e1 e0 s4 e2 bp
            go_wp2_with (first | ((with_reducible refine s1.mono ?_); rintro e w2 ⟨rfl, hC2⟩; have s2 := S2.out.2.1 w2 hC2) | ((with_reducible refine s2.mono ?_); rintro e w3 ⟨A3, c3, rfl, h3, hC3⟩; have s3 := S2.out.2.2.1 w3 (hC2.trans hC3 (fun _ _ x => x))) | ((with_reducible refine s3.mono ?_); rintro e w4 ⟨A4, c4, rfl, h4, hC4⟩; have s4 := S2.out.2.2.2.1 w4 A3 c3 A4 c4 (h3.chg hC4 (fun _ _ _ x => x)) h4) | ((with_reducible refine s4.mono ?_); rintro e w5 ⟨rfl, hC5⟩; have fin := S2.out.2.2.2.2 w5 (((hC2.trans hC3 (fun _ _ x => x)).trans hC4 (fun _ _ x => x)).trans hC5 (fun _ _ x => x))) | go_in)
            exact ⟨fin, by simp [intOf]; omega⟩
      · have d0 : ((b.length : Int) == (q1.length : Int)) = false := by rw [beq_eq_false_iff_ne]; omega
        have no := SS.out.1 (by rw [hcl, decide_eq_false e0]; rfl)
        have S2 := Lib.hid no
        have fin := S2.out wr (Chg.refl _ _)
        clear no hcl SS e0
        go_wp2_with fail
        exact ⟨fin, by simp [intOf]; omega⟩
    · have fin : RetB R w (.returned (.bool false)) wr := by
        rw [List.take_of_length_le (by have := HN.out; omega)] at ht
        refine ⟨?_, hC⟩
        rw [← HR.out]
        have : sts.any (clashB gen b) = false := by
          rw [Bool.eq_false_iff]
          intro x
          obtain ⟨y, y1, y2⟩ := List.any_eq_true.mp x
          rw [ht y y1] at y2; cases y2
        rw [this]
      obtain rfl : k = n := by omega
      clear hC ht HB HR HN
      go_wp2_with fail
      go_ret
      exact fin
end Go.Proofs.Ytmonkoclbcahiaa.Jour

namespace Go.Proofs.Ytmonkoclbcahiaa.Log
open Go.RowKit Go.Proofs.Ytmonkoclbcahiaa.Hp Go.Proofs.Ytmonkoclbcahiaa.By Go.Proofs.Ytmonkoclbcahiaa.Disk Go.Proofs.Ytmonkoclbcahiaa.Word Go.Proofs.Ytmonkoclbcahiaa.WordP
set_option linter.unusedVariables false
set_option linter.unusedSimpArgs false
set_option maxRecDepth 100000 in
set_option maxHeartbeats 1000000 in
theorem records_100 (gen : Int) (A : Option Addr) (c : Nat) (f : Nat → List Int) (w : World) (g0 : 0 ≤ gen) (g1 : gen < 4294967296) (h : SIn w A f) :
    Calls Try.prog 33 #[.slice A 100 c, .int .u32 gen] w (RcPost w f gen) := by
  have hB : RcB w f gen (.slice none 0 0) (.int .i64 0) w := ⟨0, by omega, rfl, Chg.refl _ _, [], World.ownsRow_nil _ _ _ _, fun j hj => by omega⟩
  go_enter Try.func33, Try.ntmps33
  go_wp2_with fail
  go_loopw [5, 6] (fun out i wr => RcB w f gen out i wr) (fun _ i wr => (64 - intOf i).toNat)
  case atStart => exact hB
  case round =>
    clear hB
    obtain ⟨m, hm, rfl, hC, hL⟩ := hrel
    by_cases hlt : m < 64
    · obtain ⟨ad0, g, V, e0, x0, hrw0⟩ := h m hlt
      obtain ⟨ad, e1, x1⟩ : ∃ ad, A = some ad ∧ wr.cell? (ad.add m) = some V := ⟨ad0, e0, hC.cell x0 (fun x => x)⟩
      have hrow := hrw0.chg hC (fun x => x)
      subst e1
      clear e0 x0
      have hrow0 := hrow
      obtain ⟨hl, hb, cap, Cq, rfl, hcap, hblk, hCs, hcell⟩ := hrow
      have HW := Lib.hid hrw0
      clear hrw0
      have c8 : wr.cell? ⟨g, 8, none⟩ = some (.int .u8 ((f m).getD 8 0)) := by rw [bcell hblk]; exact hcell 8 (by omega)
      have b8 := hb ((f m).getD 8 0) (by rw [List.getD_eq_getElem?_getD, List.getElem?_eq_getElem (by omega)]; exact List.getElem_mem _)
      obtain ⟨k, hk⟩ : ∃ k : Nat, (f m).getD 8 0 = k := ⟨((f m).getD 8 0).toNat, by omega⟩
      rw [hk] at c8
      have H := Lib.hid (And.intro hC (And.intro hL (And.intro hrow0 hk)))
      have k255 : k ≤ 255 := by omega
      clear hC hL hrow0 hb hblk hcell b8 hk h
      by_cases c50 : 50 < k
      · have fin := rc_no H.out.1 (f := f) (gen := gen) (m := m) (by unfold recOf; rw [if_pos (by rw [H.out.2.2.2]; omega)]) (by omega)
        have F := fun w' hc => fin w' hc _ H.out.2.1
        have hd : decide ((50 : Int) < (k : Int)) = true := by simp; omega
        clear fin H
        go_wp2_with fail
        go_region
        go_wp2_with fail
        go_ret
        exact F _ (by first | exact Chg.refl _ _ | exact (Chg.refl NoB wr).drew)
      · have hd : decide ((50 : Int) < (k : Int)) = false := by simp; omega
        have hr9 : Rd wr .u8 (some ⟨g, 9, none⟩) (((f m).drop 9).take k) := by
          obtain ⟨_, hb, cap2, C2, ev, _, hblk, hCs2, hcell⟩ := H.out.2.2.1
          refine ⟨by rw [List.length_take]; omega, fun hp => ⟨_, rfl, fun j hj => ?_⟩⟩
          rw [List.length_take, List.length_drop] at hj
          have e : (⟨g, 9, none⟩ : Addr).add j = ⟨g, 9 + j, none⟩ := by unfold Addr.add; split <;> simp_all
          rw [e, bcell hblk, hcell (9 + j) (by omega)]
          simp only [List.getD_eq_getElem?_getD, List.getElem?_take, List.getElem?_drop]
          rw [if_pos (by omega)]
        have hlk : (((f m).drop 9).take k).length = k := by rw [List.length_take, List.length_drop]; omega
        have hbb : Bytes (((f m).drop 9).take k) := fun x hx => by
          have := H.out.2.2.1.2.1 x (List.mem_of_mem_drop (List.mem_of_mem_take hx)); omega
        have sc := rsector_any gen m (some ⟨g, 9, none⟩) (cap - 9) _ wr.drew g0 g1 (by omega) (by omega) (by rw [hlk]; omega) (hr9.chg ((Chg.refl NoB wr).drew) (fun _ _ _ x => x)) hbb (fun e => by cases e)
        rw [hlk] at sc
        have hS64 := secL_len gen m (((f m).drop 9).take k) (by rw [hlk]; omega)
        have hrec : recOf (f m) gen m = if secL gen m (((f m).drop 9).take k) = f m then some (((f m).drop 9).take k) else none := by
          unfold recOf; rw [H.out.2.2.2, if_neg (by omega), Int.toNat_natCast]
        generalize hSS : secL gen m (((f m).drop 9).take k) = S at *
        clear hSS hr9 hbb
        have sme : ∀ w2 A5 c5, Rd w2 .u8 A5 S → Chg NoB wr.drew w2 → Calls Try.prog 19 #[.slice A5 64 c5, .slice (some ⟨g, 0, none⟩) 64 cap] w2 (RetB (decide (S = f m)) w2) := fun w2 A5 c5 h5 hc => by
          have hrd := (H.out.2.2.1.chg (((Chg.refl NoB wr).drew).trans hc (fun _ _ x => x)) (fun x => x)).rd
          have := same_any A5 (some ⟨g, 0, none⟩) c5 cap S (f m) w2 h5 hrd
          rw [hS64, hl] at this
          exact this
        have HR := Lib.hid (And.intro hrec (And.intro hlk hS64))
        clear hrec hlk hS64 hl
        by_cases e : S = f m
        · rw [decide_eq_true e] at sme
          have HE := Lib.hid e
          have SM := Lib.hid sme
          clear e sme
          have i1 : IntKind.i64.wrap (9 + (k : Int)) = 9 + k := IntWalk.i64_in _ ⟨by omega, by omega⟩
          have i1' : wrap64 (9 + (k : Int)) = 9 + k := by unfold wrap64; omega
          have i2 : (0 : Int) ≤ 9 + (k : Int) := by omega
          have i3 : 9 + (k : Int) ≤ cap := by omega
          have i4 : (9 : Int) ≤ 9 + (k : Int) := by omega
          have i5 : (9 + (k : Int)).toNat = 9 + k := by omega
          have i6 : (k : Int) ≤ 50 := by omega
          have i7 : ¬ cap = 9 := by omega
          go_wp2_with fail
          go_region_held3 (fun w' => w'.cell? (ad.add m) = some (.slice (some ⟨g, 0, none⟩) 64 cap)) (first | go_keep | exact hC2.cell (by assumption) (fun x => x) | exact hC3.cell (by assumption) (fun x => x))
            (first
              | (go_at_call 48; ((with_reducible refine sc.mono ?_); rintro e w2 ⟨A5, c5, rfl, hr5, hC2⟩; have sm := SM.out w2 A5 c5 hr5 hC2))
              | (go_at_call 19; ((with_reducible refine sm.mono ?_); rintro e w3 ⟨rfl, hC3⟩)))
          have hct : Chg NoB wr w3 := (((Chg.refl NoB wr).drew).trans hC2 (fun _ _ x => x)).trans hC3 (fun _ _ x => x)
          have x3 := hct.cell x1 (fun x => x)
          have hct0 := H.out.1.trans hct (fun _ _ x => x)
          obtain ⟨SVs, hown0, hels⟩ := H.out.2.1
          have hown := own_chg hown0 hct (fun _ _ x => x)
          have hbase : w.heap.size ≤ w3.heap.size := hct0.size
          have hrw : Row w (.slice (some ⟨g, 0, none⟩) 64 cap) g (f m) := HW.out
          have fin : ∀ v' w4, w4.ownsRow w.heap.size 31 1 v' (m + 1) (SVs ++ [.slice (some ⟨g, 9, none⟩) k (cap - 9)]) → Chg (fun i => u5.ownBlock = some i) w3 w4 → RcB w f gen v' (.int .i64 ((m : Int) + 1)) w4 := by
            intro v' w4 h4 hc4
            have nO : ∀ i, u5.ownBlock = some i → w.heap.size ≤ i := fun i hi => (own_ge hown0 i hi).1
            have hlen : SVs.length = m := by have := hown0.1; simpa using this
            refine ⟨m + 1, by omega, rfl, hct0.trans hc4 (fun i hi x => by have := nO i x; omega), _, h4, fun j hj => ?_⟩
            by_cases cj : j < m
            · obtain ⟨g', c', V', b', e1, e2, e3⟩ := hels j cj
              exact ⟨g', c', V', b', by rw [List.getElem?_append_left (by omega)]; exact e1, e2, e3⟩
            · obtain rfl : j = m := by omega
              refine ⟨g, cap - 9, _, _, ?_, hrw, by rw [HR.out.1, if_pos HE.out]⟩
              rw [List.getElem?_append_right (by omega), hlen, HR.out.2.1]; simp
          have FI := Lib.hid fin
          clear fin hct hct0 hown0 hels hrw hC2 hC3 sc sm H HR HE SM
          go_wp2_with (first | (at_builtin; go_loud (refine append_own2 (w := w3) (base := w.heap.size) rfl (.tmp 45) (.tmp 53) 23 31 rfl (.slice none 0 0) 24 Try.underlying23 info24 rfl u5 m SVs (by rfl) hbase hown (.slice (some ⟨g, 9, none⟩) k (cap - 9)) 31 (by rfl) rfl (by omega) (by omega) ?_); intro v' w4 hown' hCo) | go_in)
          exact ⟨FI.out v' w4 hown' hCo, by simp [intOf]; omega⟩
        · rw [decide_eq_false e] at sme
          have fin := rc_no H.out.1 (f := f) (gen := gen) (m := m) (by rw [HR.out.1, if_neg e]) (by omega)
          have F := fun w' hc => fin w' hc _ H.out.2.1
          have SM := Lib.hid sme
          clear e sme fin
          have i1 : IntKind.i64.wrap (9 + (k : Int)) = 9 + k := IntWalk.i64_in _ ⟨by omega, by omega⟩
          have i1' : wrap64 (9 + (k : Int)) = 9 + k := by unfold wrap64; omega
          have i2 : (0 : Int) ≤ 9 + (k : Int) := by omega
          have i3 : 9 + (k : Int) ≤ cap := by omega
          have i4 : (9 : Int) ≤ 9 + (k : Int) := by omega
          have i5 : (9 + (k : Int)).toNat = 9 + k := by omega
          have i6 : (k : Int) ≤ 50 := by omega
          have i7 : ¬ cap = 9 := by omega
          go_wp2_with fail
          go_region_held3 (fun w' => w'.cell? (ad.add m) = some (.slice (some ⟨g, 0, none⟩) 64 cap)) (first | go_keep | exact hC2.cell (by assumption) (fun x => x) | exact hC3.cell (by assumption) (fun x => x))
            (first
              | (go_at_call 48; ((with_reducible refine sc.mono ?_); rintro e w2 ⟨A5, c5, rfl, hr5, hC2⟩; have sm := SM.out w2 A5 c5 hr5 hC2))
              | (go_at_call 19; ((with_reducible refine sm.mono ?_); rintro e w3 ⟨rfl, hC3⟩)))
          have F2 := F w3 ((((Chg.refl NoB wr).drew).trans hC2 (fun _ _ x => x)).trans hC3 (fun _ _ x => x))
          clear hC2 hC3 sc sm H HR SM F
          go_wp2_with fail
          go_ret
          exact F2
    · obtain rfl : m = 64 := by omega
      have fin : ∀ out, RRows w wr f gen out 64 → RcPost w f gen (.returned out) wr := fun out hL => ⟨out, 64, rfl, hC, by omega, hL, .inl rfl⟩
      have F := fin _ hL
      clear fin hC hL h
      go_wp2_with fail
      go_ret
      exact F
end Go.Proofs.Ytmonkoclbcahiaa.Log
namespace Go.Proofs.Ytmonkoclbcahiaa.Jour
open Go.RowKit Go.Proofs.Ytmonkoclbcahiaa.Hp Go.Proofs.Ytmonkoclbcahiaa.By Go.Proofs.Ytmonkoclbcahiaa.Disk Go.Proofs.Ytmonkoclbcahiaa.Word Go.Proofs.Ytmonkoclbcahiaa.WordP Go.Proofs.Ytmonkoclbcahiaa.Log Go.Proofs.Ytmonkoclbcahiaa.Slot
set_option linter.unusedVariables false
set_option linter.unusedSimpArgs false
theorem info66 : (Try.prog.info? 66).map (fun i => (i.zero, i.size, i.bytes)) = some (some (.agg #[.slice none 0 0, .slice none 0 0]), 2, 48) := by kernel_rfl
def InVn (w : World) (v : Value) (L : List Int) : Prop := ∃ A c, v = .slice A L.length c ∧ Rd w .u8 A L ∧ (A = none → c = 0) ∧ Bytes L ∧ L.length ≤ c
/-- one of them: its two slices -/
def StIn (w0 wr : World) (ρ : Nat → Nat) (j : Nat) (v1 v2 : Value) (st : Sta) : Prop :=
  InVn w0 v1 st.1 ∧ WRows w0 wr v2 st.2 ∧ (∀ g, v2.ownBlock = some g → ρ g = 0 ∧ g ≠ j) ∧ st.1.length ≤ 50 ∧ st.2.length ≤ 65
def SomeAt (w0 wr : World) (ρ : Nat → Nat) (j : Nat) (v : Value) (sts : List Sta) : Prop :=
  (∃ SVs, wr.ownsRow w0.heap.size 66 2 v sts.length SVs ∧ ∀ i, i < sts.length → ∃ v1 v2, SVs[i * 2]? = some v1 ∧ SVs[i * 2 + 1]? = some v2 ∧ StIn w0 wr ρ j v1 v2 (sts.getD i ([], []))) ∧ ∀ g, v.ownBlock = some g → ρ g = 0 ∧ g ≠ j
theorem own_chg_s {S : Nat → Prop} {w w' : World} {base n size : Nat} {e : TypeId} {v : Value} {xs : List Value} (h : w.ownsRow base e size v n xs) (hc : Chg S w w') (hn : ∀ g, v.ownBlock = some g → ¬ S g) : w'.ownsRow base e size v n xs := by
  refine ⟨h.1, ?_⟩
  rcases h.2 with h2 | ⟨g, cap, cur, hv, hb, hh, r⟩
  · exact .inl h2
  · exact .inr ⟨g, cap, cur, hv, hb, hc.blk hh (hn g (by rw [hv]; rfl)), r⟩
theorem own_ge_s {w : World} {base n size : Nat} {e : TypeId} {v : Value} {xs : List Value} (h : w.ownsRow base e size v n xs) (g : Nat) (hg : v.ownBlock = some g) : base ≤ g ∧ ∃ C, Blk w g C e := by
  rcases h.2 with ⟨rfl, _⟩ | ⟨g', cap, cur, rfl, hb, hh, _⟩
  · simp [Value.ownBlock] at hg
  · have : g' = g := by simpa [Value.ownBlock] using hg
    subst this
    exact ⟨hb, cur, hh⟩
/-- what the disk and the journal do leaves them be -/
theorem StIn.go {w0 wr w' : World} {ρ ρ' : Nat → Nat} {j : Nat} {v1 v2 : Value} {st : Sta} (h : StIn w0 wr ρ j v1 v2 st) (hc : Chg (fun i => Own ρ i ∨ i = j) wr w') (hz : ∀ i, i < wr.heap.size → ρ i = 0 → ρ' i = 0) : StIn w0 w' ρ' j v1 v2 st := by
  obtain ⟨a, b, c, e⟩ := h
  exact ⟨a, b.chg hc (fun g hg x => x.elim (fun q => q (c g hg).1) (fun q => (c g hg).2 q)), fun g hg => ⟨hz g (b.lt g hg) (c g hg).1, (c g hg).2⟩, e⟩
theorem SomeAt.go {w0 wr w' : World} {ρ ρ' : Nat → Nat} {j : Nat} {v : Value} {sts : List Sta} (h : SomeAt w0 wr ρ j v sts) (hc : Chg (fun i => Own ρ i ∨ i = j) wr w') (hz : ∀ i, i < wr.heap.size → ρ i = 0 → ρ' i = 0) : SomeAt w0 w' ρ' j v sts := by
  obtain ⟨⟨SVs, h1, h2⟩, h3⟩ := h
  refine ⟨⟨SVs, own_chg_s h1 hc (fun g hg x => x.elim (fun q => q (h3 g hg).1) (fun q => (h3 g hg).2 q)), fun i hi => ?_⟩, fun g hg => ⟨hz g (h1.lt g hg).2 (h3 g hg).1, (h3 g hg).2⟩⟩
  obtain ⟨v1, v2, e1, e2, e3⟩ := h2 i hi
  exact ⟨v1, v2, e1, e2, e3.go hc hz⟩
theorem SomeAt.keep {w0 wr w' : World} {ρ : Nat → Nat} {j : Nat} {v : Value} {sts : List Sta} (h : SomeAt w0 wr ρ j v sts) (hc : Chg NoB wr w') : SomeAt w0 w' ρ j v sts :=
  h.go (hc.mono (fun _ _ x => x.elim)) (fun _ _ x => x)
theorem StIn.of {w0 w : World} {ρ : Nat → Nat} {j : Nat} {v1 v2 : Value} {st : Sta} (h : StIn w0 w ρ j v1 v2 st) (hc : Chg NoB w0 w) : StOf w v1 v2 st := by
  obtain ⟨⟨B, cB, e1, r1, r2, r3, r4⟩, h2, _, h4, h5⟩ := h
  obtain ⟨C, cC, e2, hR⟩ := h2.rows hc
  exact ⟨B, cB, C, cC, e1, e2, r1.chg hc (fun _ _ _ x => x), hR, r2, r3, by omega, h5⟩
theorem add_two (ad : Addr) (i : Nat) : ad.add (i * 2 + 1) = ⟨(ad.add (i * 2)).block, (ad.add (i * 2)).off + 1, none⟩ := by
  unfold Addr.add
  by_cases c : i * 2 = 0
  · have c2 : ¬ (i * 2 + 1 = 0) := by omega
    rw [if_neg c2, if_pos c]; simp [c]
  · have c2 : ¬ (i * 2 + 1 = 0) := by omega
    rw [if_neg c2, if_neg c]; simp [Nat.add_assoc]
theorem SomeAt.rows {w0 w : World} {ρ : Nat → Nat} {j : Nat} {v : Value} {sts : List Sta} (h : SomeAt w0 w ρ j v sts) (hc : Chg NoB w0 w) : ∃ A c, v = .slice A sts.length c ∧ StRows w A sts := by
  obtain ⟨⟨SVs, h1, h2⟩, _⟩ := h
  rcases h1.2 with ⟨rfl, h0⟩ | ⟨g, cap, cur, rfl, _⟩
  · exact ⟨none, 0, by rw [h0], fun i hi => by omega⟩
  · refine ⟨_, cap, rfl, fun i hi => ?_⟩
    obtain ⟨v1, v2, e1, e2, e3⟩ := h2 i hi
    refine ⟨_, v1, v2, rfl, h1.cells (g := g) rfl _ _ e1, ?_, e3.of hc⟩
    rw [← add_two]
    exact h1.cells (g := g) rfl _ _ e2
/-- a new slice of one -/
theorem some_one {w0 w : World} {ρ : Nat → Nat} {j : Nat} {v1 v2 : Value} {st : Sta} (h : StIn w0 w ρ j v1 v2 st) (hb : w0.heap.size ≤ w.heap.size) (h0 : ρ w.heap.size = 0) (hj : j < w.heap.size) : SomeAt w0 (w.alloc (.cells #[v1, v2] 66)) ρ j (.slice (some ⟨w.heap.size, 0, none⟩) 1 1) [st] := by
  refine ⟨⟨[v1, v2], World.ownsRow_lit w #[v1, v2] 1 hb (by decide) rfl, fun i hi => ?_⟩, fun g hg => ?_⟩
  · have : i = 0 := by simp at hi; omega
    subst this
    exact ⟨v1, v2, rfl, rfl, h.go ((Chg.refl _ w).alloc _) (fun _ _ x => x)⟩
  · simp [Value.ownBlock] at hg
    subst hg
    exact ⟨h0, by omega⟩
/-- one more -/
theorem some_snoc {w0 w w' : World} {d : Nat} {s : DSt} {gen n : Int} {br : Bool} {ρ : Nat → Nat} {j : Nat} {v v' v1 v2 : Value} {st : Sta} {sts : List Sta} {SVs : List Value} (h1 : w.ownsRow w0.heap.size 66 2 v sts.length SVs) (h2 : ∀ i, i < sts.length → ∃ v1 v2, SVs[i * 2]? = some v1 ∧ SVs[i * 2 + 1]? = some v2 ∧ StIn w0 w ρ j v1 v2 (sts.getD i ([], [])))
    (h3 : ∀ g, v.ownBlock = some g → ρ g = 0 ∧ g ≠ j) (hs : StIn w0 w ρ j v1 v2 st) (hD : JL w0 w j d ρ s gen n br) (h' : w'.ownsRow w0.heap.size 66 2 v' (sts.length + 1) (SVs ++ [v1, v2])) (hc : Chg (fun i => v.ownBlock = some i) w w') (hw : ∀ g, v'.ownBlock = some g → v.ownBlock = some g ∨ w.heap.size ≤ g) : SomeAt w0 w' ρ j v' (sts ++ [st]) := by
  have hl : SVs.length = sts.length * 2 := h1.1
  have ty : ∀ {v1 v2 : Value} {x : Sta}, StIn w0 w ρ j v1 v2 x → StIn w0 w' ρ j v1 v2 x := fun hx => by
    obtain ⟨a, b, c, e⟩ := hx
    refine ⟨a, b.chg hc (fun g hg x => ?_), c, e⟩
    obtain ⟨SV, hown, _⟩ := b
    obtain ⟨_, C1, b1⟩ := own_ge hown g hg
    obtain ⟨_, C2, b2⟩ := own_ge_s h1 g x
    have := b1.symm.trans b2
    simp at this
  refine ⟨⟨SVs ++ [v1, v2], by rw [List.length_append, List.length_singleton]; exact h', fun i hi => ?_⟩, fun g hg => ?_⟩
  · rw [List.length_append, List.length_singleton] at hi
    rw [getD_snoc]
    by_cases c : i = sts.length
    · subst c
      rw [if_pos rfl]
      exact ⟨v1, v2, by rw [List.getElem?_append_right (by omega), hl, Nat.sub_self]; rfl, by rw [List.getElem?_append_right (by omega), hl, Nat.add_sub_cancel_left]; rfl, ty hs⟩
    · rw [if_neg c]
      obtain ⟨u1, u2, e1, e2, e3⟩ := h2 i (by omega)
      exact ⟨u1, u2, by rw [List.getElem?_append_left (by omega)]; exact e1, by rw [List.getElem?_append_left (by omega)]; exact e2, ty e3⟩
  · rcases hw g hg with x | x
    · exact h3 g x
    · refine ⟨?_, by have := blt (show Blk w j _ _ from hD.2.1); omega⟩
      obtain ⟨_, _, _, _, _, _, _, hp⟩ := hD.1.at_
      exact hp.rz g x
section
variable {P : Program} {ops : Array Oper} {rest : List Oper} {o : Oper} {a : Go.Act} {Q : Exit → Go.Act → World → Prop}
/-- an append of one of two cells onto a row of the call's own -/
theorem append_two {w : World} {base : Nat} (hgd : o.guard = none) (s x : Operand) (t e : TypeId) (ho : o.op = .call { callee := .builtin .append, args := #[s, x], argTypes := #[t, t] })
    (z : Value) (bytes : Nat) (ht : P.underlying t = some (.slice e)) (hinfo : (P.info? e).map (fun i => (i.zero, i.size, i.bytes)) = some (some z, 2, bytes)) (hz : z.cells.size = 2)
    (v : Value) (n : Nat) (xs : List Value) (hs : a.eval s = v) (hbase : base ≤ w.heap.size) (hown : w.ownsRow base e 2 v n xs) (u1 u2 : Value) (T : TypeId) (hx : a.eval x = .slice (some ⟨w.heap.size, 0, none⟩) 1 1) (hu1 : u1.oneCell' = true) (hu2 : u2.oneCell' = true)
    (h1 : n + 1 ≤ 9223372036854775807) (h2 : (n + 1) * bytes ≤ 140737488355328)
    (h : ∀ v' w', w'.ownsRow base e 2 v' (n + 1) (xs ++ [u1, u2]) → Chg (fun i => v.ownBlock = some i) w w' → (∀ g, v'.ownBlock = some g → v.ownBlock = some g ∨ w.heap.size ≤ g) → wpList P ops Q rest (a.put o.dst v') w') :
    wpList P ops Q (o :: rest) a (w.alloc (.cells #[u1, u2] T)) := by
  have hi' : ∃ i, P.info? e = some i ∧ i.zero = some z ∧ i.size = 2 ∧ i.bytes = bytes := by
    cases hp : P.info? e with
    | none => rw [hp] at hinfo; cases hinfo
    | some i =>
      rw [hp] at hinfo
      simp only [Option.map_some, Option.some.injEq, Prod.mk.injEq] at hinfo
      exact ⟨i, rfl, hinfo.1, hinfo.2.1, hinfo.2.2⟩
  obtain ⟨i0, hi, hz0, hz1, hz2⟩ := hi'
  have hb : Blk (w.alloc (.cells #[u1, u2] T)) w.heap.size #[u1, u2] T := bnew w _
  have hnews : ∀ j u', ([u1, u2] : List Value)[j]? = some u' → (w.alloc (.cells #[u1, u2] T)).cell? ((⟨w.heap.size, 0, none⟩ : Addr).add j) = some u' := by
    intro j u' hj
    have hj2 := (List.getElem?_eq_some_iff.1 hj).1
    simp at hj2
    have ea : (⟨w.heap.size, 0, none⟩ : Addr).add j = ⟨w.heap.size, j, none⟩ := by unfold Addr.add; split <;> simp_all
    rw [ea, bcell hb j]
    rcases (by omega : j = 0 ∨ j = 1) with rfl | rfl
    · simpa using hj
    · simpa using hj
  have hone : ∀ u' ∈ ([u1, u2] : List Value), u'.oneCell' = true := by
    intro u' hu'
    rcases List.mem_cons.mp hu' with rfl | hu'
    · exact hu1
    · rw [List.mem_singleton] at hu'; subst hu'; exact hu2
  obtain ⟨v', w', hr, h4, h5, _⟩ := run_append_own (P := P) (w.alloc (.cells #[u1, u2] T)) base t o.type e i0 z 2 bytes ht hi hz0 hz1 hz2 hz (by decide) v n xs (hown.alloc _) ⟨w.heap.size, 0, none⟩ 1 1 [u1, u2] rfl hnews hone (by unfold maxLen; omega) h2 (by simp; omega)
  have hw := run_append_where (P := P) (w.alloc (.cells #[u1, u2] T)) base t o.type e i0 z 2 bytes ht hi hz0 hz1 hz2 hz (by decide) v n xs (hown.alloc _) ⟨w.heap.size, 0, none⟩ 1 1 [u1, u2] rfl hnews hone (by unfold maxLen; omega) h2 v' w' hr
  refine wpList_plain hgd fun _ hK => ?_
  unfold Oper.wp execOp
  simp only [ho, resolve, invoke, builtin, Sem.run_bind, Sem.run_pure, Result.andThen_ok, List.map_toArray, List.map_cons, List.map_nil, hs, hx, hr]
  refine hK _ _ (h v' w' h4 (((Chg.refl _ w).alloc _).trans (Chg.of_grownBy h5 (fun j hj => .inl hj)) (fun _ _ x => x)) (fun g hg => ?_))
  rcases hw g hg with x | x
  · exact .inl x
  · right; simp at x; omega
end
end Go.Proofs.Ytmonkoclbcahiaa.Jour

namespace Go.Proofs.Ytmonkoclbcahiaa.Jour
open Go.RowKit Go.Proofs.Ytmonkoclbcahiaa.Hp Go.Proofs.Ytmonkoclbcahiaa.By Go.Proofs.Ytmonkoclbcahiaa.Disk Go.Proofs.Ytmonkoclbcahiaa.Word Go.Proofs.Ytmonkoclbcahiaa.WordP Go.Proofs.Ytmonkoclbcahiaa.Log Go.Proofs.Ytmonkoclbcahiaa.Slot
set_option linter.unusedVariables false
set_option linter.unusedSimpArgs false
section
variable {P : Program} {ops : Array Oper} {o : Oper} {a : Go.Act} {K : Go.Act → World → Prop} {Q : Exit → Go.Act → World → Prop} {E : Prop}
/-- an append of another slice's elements, at a step of a region that draws -/
theorem step_append_src {w : World} (base : Nat) (hgd : o.guard = none) (s x : Operand) (t e : TypeId) (ho : o.op = .call { callee := .builtin .append, args := #[s, x], argTypes := #[t, t] })
    (z : Value) (bytes : Nat) (ht : P.underlying t = some (.slice e)) (hinfo : (P.info? e).map (fun i => (i.zero, i.size, i.bytes)) = some (some z, 1, bytes)) (hz : z.cells.size = 1)
    (v : Value) (n : Nat) (ys : List Value) (hs : a.eval s = v) (hbase : base ≤ w.heap.size) (hown : w.ownsRow base e 1 v n ys) (xs : List Value) (sp : Option Addr) (c : Nat) (hx : a.eval x = .slice sp xs.length c) (hnil : sp = none → c = 0)
    (hsrc : 0 < xs.length → ∃ ad, sp = some ad ∧ ∀ j v, xs[j]? = some v → w.cell? (ad.add j) = some v) (hu : ∀ u ∈ xs, u.oneCell' = true)
    (h1 : n + xs.length ≤ 9223372036854775807) (h2 : (n + xs.length) * bytes ≤ 140737488355328)
    (h : ∀ v' w', w'.ownsRow base e 1 v' (n + xs.length) (ys ++ xs) → Chg (fun i => v.ownBlock = some i) w w' → K (a.put o.dst v') w') :
    if Region.wanted o (yielded ops a.tmps) = true then Oper.wp P o a w K Q else E := by
  have hw : Region.wanted o (yielded ops a.tmps) = true := by simp [Region.wanted, hgd]
  rw [if_pos hw]
  obtain ⟨i0, hi, hz0, hz1, hz2⟩ := info_parts hinfo
  cases sp with
  | none =>
    have hx0 : xs = [] := by
      by_cases c : 0 < xs.length
      · obtain ⟨ad, hh, _⟩ := hsrc c; cases hh
      · exact List.eq_nil_of_length_eq_zero (by omega)
    subst hx0
    obtain rfl := hnil rfl
    have hrun := run_append_owned_none (P := P) (w := w) base t o.type e i0 1 ht hi v n ys hown
    unfold Oper.wp execOp
    have hx' : a.eval x = .slice none 0 0 := hx
    simp only [ho, resolve, invoke, builtin, Sem.run_bind, Sem.run_pure, Result.andThen_ok, List.map_toArray, List.map_cons, List.map_nil, hs, hx', hrun]
    exact h v w (by simpa using hown) (Chg.refl _ _)
  | some ad =>
    have hsrc2 : ∀ j u, xs[j]? = some u → w.cell? (ad.add j) = some u := by
      intro j u hj
      obtain ⟨ad', hh, hc⟩ := hsrc (by have := (List.getElem?_eq_some_iff.1 hj).1; omega)
      obtain rfl := Option.some.inj hh
      exact hc j u hj
    refine wp_append_own w s x t ho base e i0 z 1 bytes ht hi hz0 hz1 hz2 hz (by decide) v n ys hs hown ad xs.length c xs hx (by simp) hsrc2 hu (by unfold maxLen; omega) h2 hbase ?_
    intro v' w' hown' hgrow _
    exact h v' w' hown' (Chg.of_grownBy hgrow (fun j hj => .inl hj))
end
theorem chg_new {w0 W w' : World} {g l c : Nat} (h : Chg NoB w0 W) (hg : w0.heap.size ≤ g) (hc : Chg (fun i => (Value.slice (some ⟨g, 0, none⟩) l c).ownBlock = some i) W w') : Chg NoB w0 w' :=
  h.trans hc (fun i hi x => by simp [Value.ownBlock] at x; omega)
theorem one_src {W : World} {g : Nat} {u : Value} (hb : W.cell? ⟨g, 0, none⟩ = some u) : 0 < [u].length → ∃ ad, some (⟨g, 0, none⟩ : Addr) = some ad ∧ ∀ j v, [u][j]? = some v → W.cell? (ad.add j) = some v := fun _ => ⟨_, rfl, fun j v hj => by
  have : j = 0 := by
    have := (List.getElem?_eq_some_iff.1 hj).1
    simp at this; omega
  subst this
  have e : (⟨g, 0, none⟩ : Addr).add 0 = ⟨g, 0, none⟩ := rfl
  rw [e, hb]
  simpa using hj⟩
theorem cell_new (W : World) (u : Value) (T : TypeId) : (W.alloc (.cells #[u] T)).cell? ⟨W.heap.size, 0, none⟩ = some u := by
  rw [bcell (bnew W _) 0]; rfl
theorem own_drew {w : World} {base n : Nat} {e : TypeId} {v : Value} {xs : List Value} (h : w.ownsRow base e 1 v n xs) : w.drew.ownsRow base e 1 v n xs := h
theorem own_alloc {w : World} {base n : Nat} {e : TypeId} {v : Value} {xs : List Value} (h : w.ownsRow base e 1 v n xs) (o : Obj) : (w.alloc o).ownsRow base e 1 v n xs := h.alloc o
theorem cell_1 (W : World) (L : Obj) (u : Value) (T : TypeId) : ((W.alloc L).alloc (.cells #[u] T)).cell? ⟨W.heap.size + 1, 0, none⟩ = some u := by
  have := cell_new (W.alloc L) u T
  rwa [World.size_alloc] at this
theorem cell_2 (W : World) (L : Obj) (u : Value) (T : TypeId) : ((W.alloc (.cells #[u] T)).alloc L).cell? ⟨W.heap.size, 0, none⟩ = some u :=
  ((Chg.refl NoB _).alloc L).cell (cell_new W u T) (fun x => x)
theorem cell_drew {W : World} {p : Addr} {v : Option Value} (h : W.cell? p = v) : W.drew.cell? p = v := h
theorem lit_1 (W : World) (L : Obj) (base : Nat) (e : TypeId) (h : base ≤ W.heap.size) : ((W.alloc L).alloc (.cells #[] e)).ownsRow base e 1 (.slice (some ⟨W.heap.size + 1, 0, none⟩) 0 0) 0 [] := by
  have := own_lit (W.alloc L) base e (by rw [World.size_alloc]; omega)
  rwa [World.size_alloc] at this
theorem WRows.rowsC {w0 w : World} {v : Value} {ws : List (List Int)} (h : WRows w0 w v ws) : ∃ (A : Option Addr) (c : Nat) (SVs : List Value), v = .slice A ws.length c ∧ SVs.length = ws.length ∧ (A = none → c = 0) ∧ (∀ u ∈ SVs, u.oneCell' = true) ∧ (0 < SVs.length → ∃ ad, A = some ad ∧ ∀ j V, SVs[j]? = some V → w.cell? (ad.add j) = some V) ∧ ∀ j, j < ws.length → ∃ B c, SVs[j]? = some (.slice B (ws.getD j []).length c) ∧ Rd w0 .u8 B (ws.getD j []) := by
  obtain ⟨SVs, hown, h2⟩ := h
  have hl : SVs.length = ws.length := by have := hown.1; simpa using this
  have hu : ∀ u ∈ SVs, u.oneCell' = true := fun u hu => by
    obtain ⟨j, hj, e⟩ := List.getElem_of_mem hu
    obtain ⟨B, c, e1, _⟩ := h2 j (by omega)
    rw [List.getElem?_eq_getElem hj] at e1
    have e2 := Option.some.inj e1
    rw [← e, e2]; rfl
  rcases hown.2 with ⟨rfl, h0⟩ | ⟨g, cap, cur, rfl, _⟩
  · exact ⟨none, 0, SVs, by rw [h0], hl, fun _ => rfl, hu, fun hp => by omega, h2⟩
  · exact ⟨_, cap, SVs, rfl, hl, (fun x => by cases x), hu, fun _ => ⟨_, rfl, fun j V hj => hown.cells (g := g) rfl j V hj⟩, h2⟩
theorem own_base {w : World} {base base' n : Nat} {e : TypeId} {v : Value} {xs : List Value} (h : w.ownsRow base' e 1 v n xs) (hb : base ≤ base') : w.ownsRow base e 1 v n xs := by
  obtain ⟨h1, h2⟩ := h
  refine ⟨h1, ?_⟩
  rcases h2 with h2 | ⟨g, cap, cur, e1, e2, e3⟩
  · exact .inl h2
  · exact .inr ⟨g, cap, cur, e1, by omega, e3⟩
theorem push_row {w0 wr w4 : World} {d : Nat} {ρ : Nat → Nat} {s : DSt} {ws : List (List Int)} {SVs : List Value} {p : List Int} {B : Option Addr} {cB : Nat} {v4 : Value} (hD : DL w0 wr d ρ s) (hl : SVs.length = ws.length) (h2 : ∀ j, j < ws.length → ∃ B c, SVs[j]? = some (.slice B (ws.getD j []).length c) ∧ Rd w0 .u8 B (ws.getD j [])) (hp : Rd w0 .u8 B p)
    (hown : w4.ownsRow wr.heap.size 31 1 v4 (0 + SVs.length + [Value.slice B p.length cB].length) ([] ++ SVs ++ [.slice B p.length cB])) :
    WRows w0 w4 v4 (ws ++ [p]) ∧ (∀ g, v4.ownBlock = some g → ρ g = 0) ∧ (∀ g, v4.ownBlock = some g → g < w4.heap.size) ∧ ∃ A c, v4 = .slice A (ws.length + 1) c := by
  have e1 : 0 + SVs.length + [Value.slice B p.length cB].length = ws.length + 1 := by simp; omega
  rw [e1, List.nil_append] at hown
  refine ⟨WRows.snoc hl h2 hp (own_base hown hD.ch.size), fun g hg => ?_, fun g hg => own_lt hown g hg, ?_⟩
  · obtain ⟨_, _, _, _, _, _, _, hq⟩ := hD.at_
    exact hq.rz g (own_ge hown g hg).1
  · obtain ⟨A, c, e, _⟩ := own_cells hown
    exact ⟨A, c, e⟩

def JcS (w0 wr : World) (j d : Nat) (v : Value) (m : Nat) (ρ : Nat → Nat) (s : DSt) (g : Int) (base : List Int) (ws AP RB : List (List Int)) (sts : List Sta) : Prop :=
  JL w0 wr j d ρ s g ws.length (!RB.isEmpty) ∧ JInv s g base ws AP RB ∧ g ≤ m ∧ SomeAt w0 wr ρ j v sts ∧ (∃ r, sts = (base, ws) :: r) ∧ (∀ p ∈ AP, (base, ws ++ [p]) ∈ sts) ∧ (∀ b ∈ RB, (b, []) ∈ sts) ∧ sts.length ≤ m + 1
def JcQ (w0 wr : World) (j d : Nat) (v : Value) (m : Nat) : Prop := ∃ ρ s g base ws AP RB sts, JcS w0 wr j d v m ρ s g base ws AP RB sts
theorem JcS.keep {w0 wr w' : World} {j d : Nat} {v : Value} {m : Nat} {ρ : Nat → Nat} {s : DSt} {g : Int} {base : List Int} {ws AP RB : List (List Int)} {sts : List Sta} (h : JcS w0 wr j d v m ρ s g base ws AP RB sts) (hc : Chg NoB wr w') : JcS w0 w' j d v m ρ s g base ws AP RB sts := by
  obtain ⟨a, b, c, e, f⟩ := h
  exact ⟨a.keep hc, b, c, e.keep hc, f⟩
def JcTo (w0 w : World) (j d : Nat) (v : Value) (m : Nat) (ρ : Nat → Nat) (v1 v2 : Value) (sts : List Sta) (e : Ending) (w' : World) : Prop :=
  ∃ E, e = .returned (.int .i64 E) ∧ Chg (fun i => Own ρ i ∨ i = j) w w' ∧
    ((E = 0 ∧ JcQ w0 (w'.alloc (.cells #[v1, v2] 66)) j d (.slice (some ⟨w'.heap.size, 0, none⟩) 1 1) (m + 1)) ∨
     (E = 4 ∧ JcQ w0 w' j d v (m + 1)) ∨
     ((E = 6 ∨ E = 9) ∧ ∃ SVs, w'.ownsRow w0.heap.size 66 2 v sts.length SVs ∧ w0.heap.size ≤ w'.heap.size ∧ ∀ v'' w'', w''.ownsRow w0.heap.size 66 2 v'' (sts.length + 1) (SVs ++ [v1, v2]) → Chg (fun i => v.ownBlock = some i) w' w'' → (∀ g, v''.ownBlock = some g → v.ownBlock = some g ∨ w'.heap.size ≤ g) → JcQ w0 w'' j d v'' (m + 1)))
section
variable {w0 w w' : World} {j d : Nat} {v : Value} {m : Nat} {ρ ρ' : Nat → Nat} {s s' : DSt} {g g' : Int} {base base' : List Int} {ws ws' AP RB AP' RB' : List (List Int)} {sts : List Sta} {v1 v2 : Value} {st : Sta}
/-- a call that was OK -/
theorem jc_ok (hJ : JL w0 w' j d ρ' s' g' ws'.length false) (hI : JInv s' g' base' ws' [] []) (hg : g' ≤ (m : Int) + 1) (hs : StIn w0 w' ρ' j v1 v2 (base', ws')) : JcQ w0 (w'.alloc (.cells #[v1, v2] 66)) j d (.slice (some ⟨w'.heap.size, 0, none⟩) 1 1) (m + 1) := by
  obtain ⟨jl, jz⟩ := jb_lt hJ
  exact ⟨ρ', s', g', base', ws', [], [], [(base', ws')], hJ.keep ((Chg.refl NoB w').alloc _), hI, by push_cast; omega, some_one hs hJ.1.ch.size jz jl, ⟨[], rfl⟩, fun p hp => (by cases hp), fun p hp => (by cases hp), by simp⟩
/-- a call that was not -/
theorem jc_err (hJ : JL w0 w' j d ρ' s' g ws.length (!RB'.isEmpty)) (hI : JInv s' g base ws AP' RB') (hg : g ≤ m) (hS : SomeAt w0 w' ρ' j v sts) (hf : ∃ r, sts = (base, ws) :: r) (hl : sts.length ≤ m + 1) (hs : StIn w0 w' ρ' j v1 v2 st)
    (hA : ∀ p ∈ AP', (base, ws ++ [p]) ∈ sts ++ [st]) (hB : ∀ b ∈ RB', (b, []) ∈ sts ++ [st]) : ∃ SVs, w'.ownsRow w0.heap.size 66 2 v sts.length SVs ∧ w0.heap.size ≤ w'.heap.size ∧ ∀ v'' w'', w''.ownsRow w0.heap.size 66 2 v'' (sts.length + 1) (SVs ++ [v1, v2]) → Chg (fun i => v.ownBlock = some i) w' w'' → (∀ g, v''.ownBlock = some g → v.ownBlock = some g ∨ w'.heap.size ≤ g) → JcQ w0 w'' j d v'' (m + 1) := by
  obtain ⟨⟨SVs, h1, h2⟩, h3⟩ := hS
  refine ⟨SVs, h1, hJ.1.ch.size, fun v'' w'' k1 k2 k3 => ?_⟩
  have hJ5 : JL w0 w'' j d ρ' s' g ws.length (!RB'.isEmpty) := by
    cases ho : v.ownBlock with
    | none => exact hJ.keep (k2.mono (fun i _ x => by rw [ho] at x; cases x))
    | some g' =>
      obtain ⟨z1, z2⟩ := h3 g' ho
      have z3 := (h1.lt g' ho).1
      have hc5 : Chg (· = g') w' w'' := k2.mono (fun i _ x => by rw [ho] at x; exact (Option.some.inj x).symm)
      exact ⟨hJ.1.side hc5 z1 z3, hc5.blk (show Blk w' j _ _ from hJ.2.1) (fun x => z2 x.symm), hJ.2.2⟩
  obtain ⟨r, hr⟩ := hf
  exact ⟨ρ', s', g, base, ws, AP', RB', sts ++ [st], hJ5, hI, by push_cast; omega, some_snoc h1 h2 h3 hs hJ k1 k2 k3, ⟨r ++ [st], by rw [hr]; rfl⟩, hA, hB, by rw [List.length_append, List.length_singleton]; omega⟩
theorem jc_reb (h : JcS w0 w j d v m ρ s g base ws AP RB sts) (hm : m ≤ 1000) (A : Option Addr) (c : Nat) (l : List Int) (hl : l.length ≤ 50) (hr : Rd w0 .u8 A l) (hcap : l.length ≤ c) (hb : Bytes l) (hs : StIn w0 w ρ j v1 v2 (l, [])) :
    Calls Try.prog 24 #[.pointer (some ⟨j, 0, none⟩), .slice A l.length c] w (JcTo w0 w j d v m ρ v1 v2 sts) := by
  obtain ⟨hJ, hI, hg, hS, hf, hA, hB, hn⟩ := h
  have g0 := hI.g0
  refine (jreb_any hJ hI.n A c l g0 (by omega) (by omega) (hr.chg hJ.1.ch (fun _ _ _ x => x)) (fun hp ad e x => by
    have q1 := hr.lt hp ad e
    have q2 := hJ.1.nw _ x
    omega) hcap hb).mono ?_
  rintro e w' ⟨E, s', rfl, hSv, ρ', hJ', hC, hz⟩
  have hE := saves_err hI.n (by omega) hSv
  refine ⟨E, rfl, hC, ?_⟩
  by_cases c0 : E = 0
  · left
    subst c0
    rw [if_pos rfl, if_pos rfl, if_pos rfl] at hJ'
    exact ⟨rfl, jc_ok hJ' (jinv_rebased hI (by omega) (by omega) hSv) (by omega) (hs.go hC hz)⟩
  · right; right
    refine ⟨by omega, ?_⟩
    rw [if_neg c0, if_neg c0, if_neg c0] at hJ'
    refine jc_err (RB' := RB ++ [l]) (AP' := AP) (st := (l, [])) (by rw [show (!(RB ++ [l]).isEmpty) = true by cases RB <;> rfl]; exact hJ') (jinv_reb hI (by omega) hSv) hg (hS.go hC hz) hf hn (hs.go hC hz) (fun p hp => List.mem_append_left _ (hA p hp)) (fun b hb2 => ?_)
    rcases List.mem_append.mp hb2 with x | x
    · exact List.mem_append_left _ (hB b x)
    · rw [List.mem_singleton] at x; subst x
      exact List.mem_append_right _ (List.mem_singleton.mpr rfl)
theorem app_err {n : Nat} {l : List Int} (hn : n < s.n) (hl : l.length = 64) : appE s (n : Int) l = 0 ∨ appE s (n : Int) l = 6 ∨ appE s (n : Int) l = 9 := by
  unfold appE
  split
  · exact work_err _
  · rw [hl]; exact wrE_err _ _ (by omega) (by omega)
theorem jc_app (h : JcS w0 w j d v m ρ s g base ws AP RB sts) (hm : m ≤ 1000) (A : Option Addr) (c : Nat) (l : List Int) (hl : l.length ≤ 50) (hr : Rd w0 .u8 A l) (hb : Bytes l) (hs : StIn w0 w ρ j v1 v2 (base, ws ++ [l])) :
    Calls Try.prog 23 #[.pointer (some ⟨j, 0, none⟩), .slice A l.length c] w (JcTo w0 w j d v m ρ v1 v2 sts) := by
  obtain ⟨hJ, hI, hg, hS, hf, hA, hB, hn⟩ := h
  have g0 := hI.g0
  by_cases hfull : (!RB.isEmpty) = true ∨ 64 ≤ (ws.length : Int)
  · refine (japp_full _ _ _ _ _ _ _ _ _ hJ A l.length c hl hfull).mono ?_
    rintro e w' ⟨rfl, rfl⟩
    exact ⟨4, rfl, Chg.refl _ _, .inr (.inl ⟨rfl, ρ, s, g, base, ws, AP, RB, sts, hJ, hI, by push_cast; omega, hS, hf, hA, hB, by omega⟩)⟩
  · have hRB : RB = [] := by
      cases RB with
      | nil => rfl
      | cons a b => exact absurd (.inl rfl) hfull
    subst hRB
    have hw : ws.length < 64 := by
      by_cases c : ws.length < 64
      · exact c
      · exact absurd (.inr (by omega)) hfull
    have hsl := secL_len g (ws.length : Int) l hl
    refine (japp_any hJ A c l g0 (by omega) (by omega) (by omega) hl (hr.chg hJ.1.ch (fun _ _ _ x => x)) hb).mono ?_
    rintro e w' ⟨rfl, ρ', hJ', hC, hz⟩
    have hE := app_err (s := s) (n := ws.length) (l := secL g ws.length l) (by rw [hI.n]; omega) hsl
    refine ⟨_, rfl, hC, ?_⟩
    by_cases c0 : appE s ws.length (secL g ws.length l) = 0
    · left
      rw [if_pos c0] at hJ'
      refine ⟨c0, jc_ok (ws' := ws ++ [l]) (g' := g) (by rw [List.length_append, List.length_singleton]; push_cast; exact hJ') (jinv_done hI l hl hw c0) (by omega) (hs.go hC hz)⟩
    · right; right
      refine ⟨by omega, ?_⟩
      rw [if_neg c0] at hJ'
      refine jc_err (RB' := []) (AP' := AP ++ [l]) (st := (base, ws ++ [l])) hJ' (jinv_try hI l hl hw) hg (hS.go hC hz) hf hn (hs.go hC hz) (fun p hp => ?_) (fun b hb2 => by cases hb2)
      rcases List.mem_append.mp hp with x | x
      · exact List.mem_append_left _ (hA p x)
      · rw [List.mem_singleton] at x; subst x
        exact List.mem_append_right _ (List.mem_singleton.mpr rfl)
end
end Go.Proofs.Ytmonkoclbcahiaa.Jour

namespace Go.Proofs.Ytmonkoclbcahiaa.Jour
open Go.RowKit Go.Proofs.Ytmonkoclbcahiaa.Hp Go.Proofs.Ytmonkoclbcahiaa.By Go.Proofs.Ytmonkoclbcahiaa.Disk Go.Proofs.Ytmonkoclbcahiaa.Word Go.Proofs.Ytmonkoclbcahiaa.WordP Go.Proofs.Ytmonkoclbcahiaa.Log Go.Proofs.Ytmonkoclbcahiaa.Slot
set_option linter.unusedVariables false
set_option linter.unusedSimpArgs false
theorem blk_new {X : World} {g : Nat} {C : Array Value} {T : Nat} (h : g = X.heap.size) : Blk (X.alloc (.cells C T)) g C T := by
  subst h; exact bnew X _
theorem blk_up {W : World} {g : Nat} {C : Array Value} {T : Nat} {L : Obj} (h : Blk W g C T) : Blk (W.alloc L) g C T := ((Chg.refl NoB W).alloc L).blk (show Blk W g C T from h) (fun x => x)
theorem blk_drew {W : World} {g : Nat} {C : Array Value} {T : Nat} (h : Blk W g C T) : Blk W.drew g C T := h
theorem blk_thru0 {W w' : World} {p l c g : Nat} {C : Array Value} {T : TypeId} (hC : Chg (fun i => (Value.slice (some ⟨p, 0, none⟩) l c).ownBlock = some i) W w') (hp : p ≠ g) (hb : Blk W g C T) : Blk w' g C T :=
  hC.blk (show Blk W g C _ from hb) (fun x => by simp [Value.ownBlock] at x; exact hp x)
theorem cell_thru0 {W w' : World} {p l c g o : Nat} {v : Value} (hC : Chg (fun i => (Value.slice (some ⟨p, 0, none⟩) l c).ownBlock = some i) W w') (h : W.cell? ⟨g, o, none⟩ = some v) (hp : p ≠ g) : w'.cell? ⟨g, o, none⟩ = some v :=
  hC.cell h (fun x => by simp [Value.ownBlock] at x; exact hp x)
theorem blk_thru1 {W w3 w' : World} {base n : Nat} {v : Value} {xs : List Value} {g : Nat} {C : Array Value} (hown : w3.ownsRow base 31 1 v n xs) (hC : Chg (fun i => v.ownBlock = some i) W w') (h3 : ∀ g C T, Blk w3 g C T → Blk W g C T) (hb : Blk W g C 66) : Blk w' g C 66 := by
  refine hC.blk (show Blk W g C _ from hb) (fun x => ?_)
  obtain ⟨_, C2, b2⟩ := own_ge hown g x
  have := (show W.heap[g]? = _ from hb).symm.trans (h3 _ _ _ b2)
  simp at this
theorem lit_at {X : World} {g base : Nat} {e : TypeId} (h : g = X.heap.size) (hb : base ≤ g) : (X.alloc (.cells #[] e)).ownsRow base e 1 (.slice (some ⟨g, 0, none⟩) 0 0) 0 [] := by
  subst h; exact own_lit X base e hb
theorem cell_at {X : World} {g : Nat} {u : Value} {T : TypeId} (h : g = X.heap.size) : (X.alloc (.cells #[u] T)).cell? ⟨g, 0, none⟩ = some u := by
  subst h; exact cell_new X u T
theorem cell_up {W : World} {p : Addr} {v : Value} {L : Obj} (h : W.cell? p = some v) : (W.alloc L).cell? p = some v := ((Chg.refl NoB W).alloc L).cell h (fun x => x)
theorem blk_facts {w : World} {g : Nat} {T : TypeId} (h : Blk w g #[.slice none 0 0, .slice none 0 0] T) : w.cell? ⟨g, 0, none⟩ = some (.slice none 0 0) ∧ w.cell? ⟨g, 1, none⟩ = some (.slice none 0 0) ∧ w.frozen? ⟨g, 0, none⟩ = false ∧ w.frozen? ⟨g, 1, none⟩ = false :=
  ⟨by rw [bcell h]; rfl, by rw [bcell h]; rfl, bfroz h 0, bfroz h 1⟩
theorem set2 {w : World} {g p o : Nat} {v1 v2 v : Value} (h : w.cell? ⟨p, o, none⟩ = some v) (hp : p ≠ g) : ((w.setCell ⟨g, 0, none⟩ v1).setCell ⟨g, 1, none⟩ v2).cell? ⟨p, o, none⟩ = some v :=
  (((Chg.refl (· = g) w).set (p := ⟨g, 0, none⟩) (.inl rfl) v1).set (p := ⟨g, 1, none⟩) (.inl rfl) v2).cell h hp
def JcB (w0 : World) (j d N : Nat) (v i : Value) (wr : World) : Prop := ∃ m : Nat, m ≤ N ∧ i = .int .i64 m ∧ JcQ w0 wr j d v m
/-- the next state lies in a struct of its own -/
def JcN (w0 wr : World) (ρ : Nat → Nat) (j : Nat) (b : List Int) (ws : List (List Int)) (v1 : Value) (xb : Bool) (xs : Value) (v : Value) (wx : World) : Prop :=
  ∃ p v4, v = .pointer (some ⟨p, 0, none⟩) ∧ Chg NoB wr wx ∧ wr.heap.size < p ∧ Blk wx wr.heap.size #[.bool xb, xs] 61 ∧ Blk wx p #[v1, v4] 66 ∧ StIn w0 wx ρ j v1 v4 (b, ws)
theorem jcN_in {w0 wr w4 : World} {j d : Nat} {ρ : Nat → Nat} {s : DSt} {g n : Int} {br : Bool} {v1 v4 : Value} {base l : List Int} {ws : List (List Int)} {SVs : List Value} {B : Option Addr} {cB base' : Nat} (hJ : JL w0 wr j d ρ s g n br) (hb : InVn w0 v1 base) (h50 : base.length ≤ 50) (hl : SVs.length = ws.length) (h2 : ∀ j, j < ws.length → ∃ B c, SVs[j]? = some (.slice B (ws.getD j []).length c) ∧ Rd w0 .u8 B (ws.getD j [])) (h65 : ws.length ≤ 64) (hp : Rd w0 .u8 B l) (hW : wr.heap.size ≤ base')
    (hown : w4.ownsRow base' 31 1 v4 (ws.length + 1) (SVs ++ [.slice B l.length cB])) : StIn w0 w4 ρ j v1 v4 (base, ws ++ [l]) := by
  obtain ⟨jl, _⟩ := jb_lt hJ
  have hz := hJ.1.ch.size
  refine ⟨hb, WRows.snoc hl h2 hp (own_base hown (by omega)), fun g hg => ?_, h50, by rw [List.length_append, List.length_singleton]; show ws.length + 1 ≤ 65; omega⟩
  have hge := (own_ge hown g hg).1
  refine ⟨?_, by omega⟩
  obtain ⟨_, _, _, _, _, _, _, hq⟩ := hJ.1.at_
  exact hq.rz g (by omega)
theorem jcN_new {w0 wr w4 : World} {j : Nat} {ρ : Nat → Nat} {b : List Int} {ws : List (List Int)} {v1 v4 xs : Value} {xb : Bool} (hs : StIn w0 w4 ρ j v1 v4 (b, ws)) (hC : Chg NoB wr w4) (hb : Blk w4 wr.heap.size #[.bool xb, xs] 61) :
    JcN w0 wr ρ j b ws v1 xb xs (.pointer (some ⟨w4.heap.size, 0, none⟩)) (w4.alloc (.cells #[v1, v4] 66)) :=
  ⟨_, v4, rfl, hC.alloc _, blt hb, blk_up hb, blk_new rfl, hs.go ((Chg.refl _ w4).alloc _) (fun _ _ x => x)⟩
theorem jcN_set {w0 wr w4 : World} {j g : Nat} {ρ : Nat → Nat} {b : List Int} {ws : List (List Int)} {v1 v4 xs : Value} {xb : Bool} (hs : StIn w0 w4 ρ j v1 v4 (b, ws)) (hC : Chg NoB wr w4) (hb : Blk w4 wr.heap.size #[.bool xb, xs] 61) (hg : wr.heap.size < g) (t4 : Blk w4 g #[.slice none 0 0, .slice none 0 0] 66) :
    JcN w0 wr ρ j b ws v1 xb xs (.pointer (some ⟨g, 0, none⟩)) ((w4.setCell ⟨g, 0, none⟩ v1).setCell ⟨g, 1, none⟩ v4) := by
  have hc : Chg (· = g) w4 ((w4.setCell ⟨g, 0, none⟩ v1).setCell ⟨g, 1, none⟩ v4) := ((Chg.refl (· = g) w4).set (p := ⟨g, 0, none⟩) (.inl rfl) v1).set (p := ⟨g, 1, none⟩) (.inl rfl) v4
  obtain ⟨a, b2, c, e⟩ := hs
  refine ⟨g, v4, rfl, hC.trans hc (fun i hi x => by have : i = g := x; omega), hg, hc.blk (show Blk w4 _ _ _ from hb) (fun x => by have : wr.heap.size = g := x; omega), bset (bset t4 0 v1) 1 v4, a, b2.chg hc (fun g' hg' x => ?_), c, e⟩
  have e2 : g' = g := x
  subst e2
  obtain ⟨SV, hown, _⟩ := b2
  obtain ⟨_, C1, b1⟩ := own_ge hown g' hg'
  have := (show w4.heap[g']? = _ from b1).symm.trans t4
  simp at this
/-- what it was rebased to -/
theorem jcN_base {w0 W6 : World} {j : Nat} {ρ : Nat → Nat} {A : Option Addr} {c : Nat} {l : List Int} (hr : Rd w0 .u8 A l) (hl : l.length ≤ 50) (hcap : l.length ≤ c) (hn : A = none → c = 0) (hb : Bytes l) : StIn w0 W6 ρ j (.slice A l.length c) (.slice none 0 0) (l, []) :=
  ⟨⟨A, c, rfl, hr, hn, hb, hcap⟩, WRows.nil _ _, fun g hg => by simp [Value.ownBlock] at hg, hl, Nat.zero_le _⟩
theorem jc_set {W5 : World} {p : Nat} {u1 u2 v1 v2 : Value} {T : TypeId} (h : Blk W5 p #[u1, u2] T) : Blk ((W5.setCell ⟨p, 0, none⟩ v1).setCell ⟨p, 1, none⟩ v2) p #[v1, v2] T := bset (bset h 0 v1) 1 v2
theorem jc_setC {wr W5 : World} {p : Nat} {v1 v2 : Value} (hC : Chg NoB wr W5) (hp : wr.heap.size < p) : Chg NoB wr ((W5.setCell ⟨p, 0, none⟩ v1).setCell ⟨p, 1, none⟩ v2) :=
  hC.trans (((Chg.refl (· = p) W5).set (p := ⟨p, 0, none⟩) (.inl rfl) v1).set (p := ⟨p, 1, none⟩) (.inl rfl) v2) (fun i hi x => by have : i = p := x; omega)
theorem jc_setB {W5 : World} {p g : Nat} {v1 v2 : Value} {C : Array Value} {T : TypeId} (h : Blk W5 g C T) (hp : g ≠ p) : Blk ((W5.setCell ⟨p, 0, none⟩ v1).setCell ⟨p, 1, none⟩ v2) g C T :=
  (((Chg.refl (· = p) W5).set (p := ⟨p, 0, none⟩) (.inl rfl) v1).set (p := ⟨p, 1, none⟩) (.inl rfl) v2).blk (show Blk W5 g _ _ from h) hp
/-- the struct's block stays over a call -/
theorem jc_over {w0 wr W6 w' : World} {j d p : Nat} {ρ : Nat → Nat} {s : DSt} {g n : Int} {br : Bool} {C : Array Value} {T : TypeId} (hJ : JL w0 wr j d ρ s g n br) (hp : wr.heap.size ≤ p) (hb : Blk W6 p C T) (hC : Chg (fun i => Own ρ i ∨ i = j) W6 w') : Blk w' p C T := by
  obtain ⟨jl, _⟩ := jb_lt hJ
  obtain ⟨_, _, _, _, _, _, _, hq⟩ := hJ.1.at_
  exact hC.blk (show Blk W6 p _ _ from hb) (fun x => x.elim (fun y => y (hq.rz p hp)) (fun y => by omega))
theorem jcs_w65 {w0 wr : World} {j d m : Nat} {v : Value} {ρ : Nat → Nat} {s : DSt} {g : Int} {base : List Int} {ws AP RB : List (List Int)} {sts : List Sta} (h : JcS w0 wr j d v m ρ s g base ws AP RB sts) : ws.length ≤ 64 := h.2.1.w64
/-- what the tail has -/
theorem load_len (f : Nat → List Int) : (loadOf f).2.length ≤ 960 := by
  have h : ∀ (p : Int × List Int) w, p.2.length ≤ 960 → (pick1 p (oneOf f w)).2.length ≤ 960 := fun p w hp => by
    cases e : oneOf f w with
    | none => exact hp
    | some q =>
      show (if p.1 ≤ q.1 then q else p).2.length ≤ 960
      split
      · exact one_len e
      · exact hp
  exact h _ _ (h _ _ (Nat.zero_le _))
theorem jc_found {w0 w : World} {j d m : Nat} {v : Value} {ρ : Nat → Nat} {s : DSt} {g : Int} {base : List Int} {ws AP RB : List (List Int)} {sts : List Sta} (h : JcS w0 w j d v m ρ s g base ws AP RB sts) (hm : m ≤ 1000) (keep torn : Int) (f : Nat → List Int) (hf : Says (s.crash keep torn) f) (k : Nat) (hk : k ≤ 64)
    (q1 : ∀ j : Nat, j < k → (recOf ((s.crash keep torn).get (j : Int)) (loadOf f).1 j).isSome = true) (q2 : k = 64 ∨ recOf ((s.crash keep torn).get (k : Int)) (loadOf f).1 k = none) :
    ((loadOf f).2, recs (s.crash keep torn) (loadOf f).1 k) ∈ sts ∨ (0 < torn ∧ torn < 64) ∨ sts.any (clashB (loadOf f).1 (loadOf f).2) = true := by
  obtain ⟨hJ, hI, hg, hS, hfi, hA, hB, hn⟩ := h
  by_cases ht : 0 < torn ∧ torn < 64
  · exact .inr (.inl ht)
  · have hpv : ∀ j : Nat, PV s j (f j) := fun j => by
      rw [← hf.2.2 j]
      exact (pv_crash (keep := keep) (hI.len j)).resolve_right ht
    have hF := jinv_found hI (by omega) hpv hf k hk q1 q2
    obtain ⟨r, hr⟩ := hfi
    rcases hF with ⟨_, e2, e3⟩ | ⟨e1, e2, b, hb, e3, e4⟩
    · left
      rw [e2]
      rcases e3 with e3 | ⟨p, hp, e3⟩
      · rw [e3, hr]; exact List.mem_cons_self
      · rw [e3]; exact hA p hp
    · by_cases c : (loadOf f).2 = b
      · left
        rw [c, e1]; exact hB b hb
      · right; right
        exact List.any_eq_true.mpr ⟨_, hB b hb, by unfold clashB; rw [decide_eq_true e3, decide_eq_false c, decide_eq_true e4]; rfl⟩
/-- behind Open -/
def JcR (w0 w : World) (j d : Nat) (ρ : Nat → Nat) (s : DSt) (v vb vl : Value) (sts : List Sta) (f : Nat → List Int) (k : Nat) : Prop :=
  DL w0 w d ρ s ∧ SomeAt w0 w ρ j v sts ∧ ∃ base, (∀ i, Own ρ i → i < base) ∧ OwnB base w vb (loadOf f).2 ∧ LRows w base vl (recs s (loadOf f).1 k)
theorem JcR.go {w0 w w' : World} {j d : Nat} {ρ : Nat → Nat} {s : DSt} {v vb vl : Value} {sts : List Sta} {f : Nat → List Int} {k : Nat} (h : JcR w0 w j d ρ s v vb vl sts f k) (hC : Chg (Own ρ) w w') (hD : DL w0 w' d ρ s) : JcR w0 w' j d ρ s v vb vl sts f k := by
  obtain ⟨a, b, base, c, e, f⟩ := h
  exact ⟨hD, b.go (hC.mono (fun _ _ x => .inl x)) (fun _ _ x => x), base, c, e.chg hC c, f.chg hC c⟩
theorem JcR.keep {w0 w w' : World} {j d : Nat} {ρ : Nat → Nat} {s : DSt} {v vb vl : Value} {sts : List Sta} {f : Nat → List Int} {k : Nat} (h : JcR w0 w j d ρ s v vb vl sts f k) (hC : Chg NoB w w') : JcR w0 w' j d ρ s v vb vl sts f k :=
  h.go (hC.mono (fun _ _ x => x.elim)) (h.1.keep hC)
/-- behind the Crash, and behind Open -/
def JcC (w0 : World) (j d : Nat) (v : Value) (sts : List Sta) (torn : Int) (e : Ending) (w' : World) : Prop :=
  ∃ ρ s f, e = .returned (.tuple #[]) ∧ DL w0 w' d ρ s ∧ Says s f ∧ SomeAt w0 w' ρ j v sts ∧ ∀ k : Nat, k ≤ 64 → (∀ j : Nat, j < k → (recOf (s.get (j : Int)) (loadOf f).1 j).isSome = true) → (k = 64 ∨ recOf (s.get (k : Int)) (loadOf f).1 k = none) →
    ((loadOf f).2, recs s (loadOf f).1 k) ∈ sts ∨ (0 < torn ∧ torn < 64) ∨ sts.any (clashB (loadOf f).1 (loadOf f).2) = true
theorem jc_crash {w0 w : World} {j d m : Nat} {v : Value} {ρ : Nat → Nat} {s : DSt} {g : Int} {base : List Int} {ws AP RB : List (List Int)} {sts : List Sta} (h : JcS w0 w j d v m ρ s g base ws AP RB sts) (hm : m ≤ 1000) (keep torn : Int) (k0 : 0 ≤ keep) (k1 : keep < 18446744073709551616) :
    Calls Try.prog 28 #[.pointer (some ⟨d, 0, none⟩), .int .u64 keep, .int .i64 torn] w (JcC w0 j d v sts torn) := by
  refine (l_crash keep torn k0 k1 h.1.1).mono ?_
  rintro e w' ⟨rfl, hC, ρ', hD, hi⟩
  have hs : Says (s.crash keep torn) (fun j : Nat => (s.crash keep torn).get (j : Int)) := ⟨rfl, h.2.1.n, fun _ => rfl⟩
  refine ⟨ρ', s.crash keep torn, _, rfl, hD, hs, h.2.2.2.1.go (hC.mono (fun _ _ x => .inl x)) (fun i _ hz => ?_), fun k hk q1 q2 => jc_found h hm keep torn _ hs k hk q1 q2⟩
  by_cases c : ρ' i = 0
  · exact c
  · exact absurd hz ((hi i).mp c)
def JcP (w0 : World) (j d : Nat) (v : Value) (sts : List Sta) (torn : Int) (ρ : Nat → Nat) (s : DSt) (f : Nat → List Int) (e : Ending) (w' : World) : Prop :=
  ∃ j5 B cB A k c, e = .returned (.tuple #[.pointer (some ⟨j5, 0, none⟩), .slice B (loadOf f).2.length cB, .slice A k c, .int .i64 0]) ∧ JcR w0 w' j d ρ s v (.slice B (loadOf f).2.length cB) (.slice A k c) sts f k ∧ k ≤ 64 ∧ (∀ j : Nat, j < k → (recOf (s.get (j : Int)) (loadOf f).1 j).isSome = true) ∧ (k = 64 ∨ recOf (s.get (k : Int)) (loadOf f).1 k = none)
theorem jc_open {w0 w : World} {j d : Nat} {v : Value} {ρ : Nat → Nat} {s : DSt} {f : Nat → List Int} {sts : List Sta} (torn : Int) (h : DL w0 w d ρ s) (hs : Says s f) (hS : SomeAt w0 w ρ j v sts) :
    Calls Try.prog 21 #[.pointer (some ⟨d, 0, none⟩)] w (JcP w0 j d v sts torn ρ s f) := by
  refine (jopen_any h hs).mono ?_
  rintro e w5 ⟨j5, vb, A, k, c, rfl, hJ, hC, hv, hL, hk, q1, q2, _, _⟩
  obtain ⟨B, cB, e1, hv2⟩ := hv
  subst e1
  exact ⟨j5, B, cB, A, k, c, rfl, ⟨hJ.1, hS.go (hC.mono (fun _ _ x => .inl x)) (fun _ _ x => x), w.heap.size, own_lt_size h, ⟨B, cB, rfl, hv2⟩, hL⟩, hk, q1, q2⟩
/-- the last line's calls -/
theorem JcR.one {w0 w : World} {j d : Nat} {ρ : Nat → Nat} {s : DSt} {A5 B As : Option Addr} {k c5 cB cs : Nat} {sts : List Sta} {f : Nat → List Int} (h : JcR w0 w j d ρ s (.slice As sts.length cs) (.slice B (loadOf f).2.length cB) (.slice A5 k c5) sts f k) (hk : k ≤ 64) (hs : sts.length ≤ 200) :
    Calls Try.prog 31 #[.slice B (loadOf f).2.length cB, .slice A5 k c5, .slice As sts.length cs] w (RetB (decide (((loadOf f).2, recs s (loadOf f).1 k) ∈ sts)) w) := by
  obtain ⟨hD, hS, base, _, hb, hl⟩ := h
  obtain ⟨A', c', e, hr⟩ := hS.rows hD.ch
  injection e with e1 _ _
  subst e1
  obtain ⟨A', c', e, hR⟩ := hl.rows
  injection e with e1 _ _
  subst e1
  obtain ⟨A', c', e, _, hB, _⟩ := hb
  injection e with e1 _ _
  subst e1
  have := one_any B A5 As cB c5 cs (loadOf f).2 (recs s (loadOf f).1 k) sts w hB hR (by rw [recs_len]; omega) hr hs
  rwa [recs_len] at this
theorem JcR.clash {w0 w : World} {j d : Nat} {ρ : Nat → Nat} {s : DSt} {B As : Option Addr} {k cB cs : Nat} {vl : Value} {sts : List Sta} {f : Nat → List Int} (h : JcR w0 w j d ρ s (.slice As sts.length cs) (.slice B (loadOf f).2.length cB) vl sts f k) (hs : sts.length ≤ 200) (g0 : 0 ≤ (loadOf f).1) (g1 : (loadOf f).1 < 4294967296) :
    Calls Try.prog 32 #[.int .u32 (loadOf f).1, .slice B (loadOf f).2.length cB, .slice As sts.length cs] w (RetB (sts.any (clashB (loadOf f).1 (loadOf f).2)) w) := by
  obtain ⟨hD, hS, base, _, hb, hl⟩ := h
  obtain ⟨A', c', e, hr⟩ := hS.rows hD.ch
  injection e with e1 _ _
  subst e1
  obtain ⟨A', c', e, _, hB, _, hby, _⟩ := hb
  injection e with e1 _ _
  subst e1
  exact clash_any (loadOf f).1 B As cB cs (loadOf f).2 sts w g0 g1 hB hby (load_len f) hr hs
theorem JcR.same {w0 w : World} {j d : Nat} {ρ : Nat → Nat} {s : DSt} {B C : Option Addr} {k cB cC : Nat} {v vl : Value} {sts : List Sta} {f : Nat → List Int} (h : JcR w0 w j d ρ s v (.slice B (loadOf f).2.length cB) vl sts f k) (hC : Rd w .u8 C (loadOf f).2) :
    Calls Try.prog 19 #[.slice B (loadOf f).2.length cB, .slice C (loadOf f).2.length cC] w (RetB true w) := by
  obtain ⟨hD, hS, base, _, hb, hl⟩ := h
  obtain ⟨A', c', e, _, hB, _⟩ := hb
  injection e with e1 _ _
  subst e1
  have := same_any B C cB cC (loadOf f).2 (loadOf f).2 w hB hC
  rwa [decide_eq_true rfl] at this
theorem JcR.sameAll {w0 w w4 : World} {j d : Nat} {ρ : Nat → Nat} {s : DSt} {A5 A6 : Option Addr} {k c5 m6 c6 : Nat} {v vb : Value} {sts : List Sta} {f : Nat → List Int} (h : JcR w0 w j d ρ s v vb (.slice A5 k c5) sts f k) (hs : Says s f) (hk : k ≤ 64) (q1 : ∀ j : Nat, j < k → (recOf (s.get (j : Int)) (loadOf f).1 j).isSome = true) (q2 : k = 64 ∨ recOf (s.get (k : Int)) (loadOf f).1 k = none)
    (hm6 : m6 ≤ 64) (hR6 : RRows w4 w (fun j => s.get (j : Int)) (loadOf f).1 (.slice A6 m6 c6) m6) (hRR : Log.Rows w A6 (recsF (fun j => s.get (j : Int)) (loadOf f).1 m6)) (hno : m6 = 64 ∨ recOf (s.get (m6 : Int)) (loadOf f).1 m6 = none) :
    Calls Try.prog 29 #[.slice A5 k c5, .slice A6 m6 c6] w (RetB true w) := by
  obtain ⟨hD, hS, base, _, hb, hl⟩ := h
  obtain ⟨A', c', e, hR⟩ := hl.rows
  injection e with e1 _ _
  subst e1
  have hkm : k = m6 := stop_eq (f := fun j => s.get (j : Int)) hk hm6 q1 q2 (fun j hj => by
    obtain ⟨_, _, h2⟩ := hR6
    obtain ⟨_, _, _, b, _, _, h3⟩ := h2 j hj
    rw [h3]; rfl) hno
  subst hkm
  have := sameAll_any A5 A6 c5 c6 (recs s (loadOf f).1 k) (recsF (fun j => s.get (j : Int)) (loadOf f).1 k) w hR hRR (by rw [recs_len]; omega) (by rw [recsF_len]; omega)
  rw [recs_len, recsF_len, decide_eq_true (recs_recsF s (loadOf f).1 k)] at this
  exact this
theorem JcR.load {w0 w : World} {j d : Nat} {ρ : Nat → Nat} {s : DSt} {v vb vl : Value} {sts : List Sta} {f : Nat → List Int} {k : Nat} (h : JcR w0 w j d ρ s v vb vl sts f k) (hs : Says s f) (ad : Addr) (c : Nat) (hc : 100 ≤ c) (hI : SInN w (some ad) 100 (fun j => s.get (j : Int))) :
    Calls Try.prog 17 #[.slice (some ad) 100 c] w fun e w' => ∃ C cC, e = .returned (.tuple #[.int .u32 (loadOf f).1, .slice C (loadOf f).2.length cC]) ∧ Chg NoB w w' ∧ Rd w' .u8 C (loadOf f).2 ∧ 0 ≤ (loadOf f).1 ∧ (loadOf f).1 < 4294967296 := by
  have e : (fun j : Nat => s.get (j : Int)) = f := funext hs.2.2
  rw [e] at hI
  refine (rload_any ad c f w hc hI).mono ?_
  rintro e w' ⟨v, rfl, hC, ⟨A, cA, e1, _, hr, _⟩, g0, g1⟩
  subst e1
  exact ⟨A, cA, rfl, hC, hr, g0, g1⟩
theorem sin_of {w : World} {A : Option Addr} {f : Nat → List Int} (h : SInN w A 100 f) : SIn w A f := fun j hj => h j (by omega)
end Go.Proofs.Ytmonkoclbcahiaa.Jour

namespace Go.Proofs.Ytmonkoclbcahiaa.Jour
open Go.RowKit Go.Proofs.Ytmonkoclbcahiaa.Hp Go.Proofs.Ytmonkoclbcahiaa.By Go.Proofs.Ytmonkoclbcahiaa.Disk Go.Proofs.Ytmonkoclbcahiaa.Word Go.Proofs.Ytmonkoclbcahiaa.WordP Go.Proofs.Ytmonkoclbcahiaa.Log Go.Proofs.Ytmonkoclbcahiaa.Slot
set_option linter.unusedVariables false
set_option linter.unusedSimpArgs false
def JcG (w0 : World) (j d N : Nat) (k : Nat) (v i : Value) (wr : World) : Prop := ∃ m : Nat, m ≤ N ∧ i = .int .i64 m ∧ k = 200 - m ∧ JcQ w0 wr j d v m
def JcE (w0 : World) (j d : Nat) (v : Value) (w' : World) : Prop := ∃ m : Nat, m ≤ 101 ∧ JcQ w0 w' j d v m
/-- behind Rebase or Append -/
def JcF (w0 : World) (j d : Nat) (v : Value) (m : Nat) (ρ : Nat → Nat) (sts : List Sta) (p : Nat) (f : Value) (w' : World) : Prop :=
  ∃ W6 B1 k1 c1 B2 k2 c2, JcTo w0 W6 j d v m ρ (.slice B1 k1 c1) (.slice B2 k2 c2) sts (.returned f) w' ∧ Blk w' p #[.slice B1 k1 c1, .slice B2 k2 c2] 66
set_option maxRecDepth 100000 in
set_option maxHeartbeats 100000000 in
theorem journalCrash (A : Option Addr) (N c : Nat) (X : Nat → ActV) (first count fuse keep torn : Int) (w : World) (hX : IsActs w A N c X) (hx8 : ∀ i, i < N → ∀ y ∈ (X i).zs.take (X i).len, 0 ≤ y ∧ y ≤ 255) (f1 : first ≤ 9223372036854775807) (f2 : count ≤ 9223372036854775807) (f3 : fuse ≤ 9223372036854775807) (k0 : 0 ≤ keep) (k1 : keep < 18446744073709551616) : Calls Try.prog 11 #[.slice A N c, .int .i64 first, .int .i64 count, .int .i64 fuse, .int .u64 keep, .int .i64 torn] w (True1 w) := by
  by_cases hl : 100 < N
  · clear hX hx8
    go_enter Try.func11, Try.ntmps11
    go_wp2_with fail
    refine (answers6 _).mono ?_
    rintro e w1 ⟨rfl, hC⟩
    have fin : True1 w (.returned (.bool true)) w1 := ⟨rfl, hC⟩
    clear hC
    go_wp2_with fail
    go_ret
    exact fin
  · have hn : N ≤ 100 := by omega
    have HR := Lib.hid (And.intro hX hx8)
    clear hX hx8 hl
    go_enter Try.func11, Try.ntmps11
    go_wp2_with fail
    refine (l_new 192 (by omega) (by omega) w).mono ?_
    rintro e w1 ⟨d, ρ, rfl, h⟩
    have ho := jopen_any h says_new
    clear h
    go_wp2_with fail
    refine ho.mono ?_
    rintro e w2 ⟨j, vb, Ao, ko, co, rfl, hJ, _, _, _, hko, q1, q2, _, _⟩
    rw [load_zero] at hJ q1 q2
    have hk0 : ko = 0 := stop_at says_new hko q1 q2 0 (by omega) (fun j hj => by omega) (.inr sum_zero)
    subst hk0
    have hfa := l_fail first count f1 f2 hJ.1
    have hJh := Lib.hid hJ
    clear ho hJ q1 q2
    go_wp2_with fail
    refine hfa.mono ?_
    rintro e w3 ⟨rfl, h3, hC3⟩
    have hfu := l_fuse fuse f3 h3
    have hJ3 := hJh.out.mk' hC3 h3 (fun _ _ x => x)
    have hJh := Lib.hid hJ3
    clear hfa h3 hC3 hJ3
    go_wp2_with fail
    refine hfu.mono ?_
    rintro e w4 ⟨rfl, h4, hC4⟩
    have hJ4 := hJh.out.mk' hC4 h4 (fun _ _ x => x)
    have hB : JcG w j d N 200 (.slice (some ⟨w4.heap.size, 0, none⟩) 1 1) (.int .i64 0) (w4.alloc (.cells #[.slice none 0 0, .slice none 0 0] 66)) := ⟨0, by omega, rfl, rfl, by
      obtain ⟨jl, jz⟩ := jb_lt hJ4
      exact ⟨ρ, _, 0, [], [], [], [], [([], [])], hJ4.keep ((Chg.refl NoB w4).alloc _), jinv_new first count fuse, by decide, some_one ⟨⟨none, 0, rfl, ⟨by decide, fun hp => absurd hp (by decide)⟩, fun _ => rfl, (fun x hx => by cases hx), by decide⟩, WRows.nil _ _, fun g hg => by simp [Value.ownBlock] at hg, by decide, by decide⟩ hJ4.1.ch.size jz jl, ⟨[], rfl⟩, fun p hp => (by cases hp), fun p hp => (by cases hp), by decide⟩⟩
    clear hfu h4 hC4 hJ4 hJh hko
    go_upto_block 0 with fail
    go_cut [18] (fun v wx => JcE w j d v wx)
    case first =>
     go_wp2_with fail
     go_loopg [18, 19] 200 (fun k v i wr => JcG w j d N k v i wr)
     case atStart => exact hB
     case round =>
      clear hB
      obtain ⟨m, hm, rfl, hgk, ρ1, s, g, base, ws, AP, RB, sts, hS⟩ := hrel
      by_cases hlt : m < N
      · obtain ⟨ad, rfl, hx⟩ : ∃ ad, A = some ad ∧ ActAt w ad m (X m) := by
          rcases HR.out.1 with ⟨_, h0, _⟩ | ⟨ad, e, _, _, hall⟩
          · omega
          · exact ⟨ad, e, hall m hlt⟩
        have hby := HR.out.2 m hlt
        obtain ⟨z0, z1⟩ := hx.two
        have x0 := hS.1.1.ch.cell z0 (fun x => x)
        have x1 := hS.1.1.ch.cell z1 (fun x => x)
        have hrow := hx.2
        generalize X m = x at *
        obtain ⟨xb, xA, xl, xc, xz⟩ := x
        dsimp only at x0 x1 hrow hby
        obtain ⟨As, cs, rfl, hrows⟩ := hS.2.2.2.1.rows hS.1.1.ch
        by_cases hbig : 50 < xl
        · have hd1 : decide (50 < (xl : Int)) = true := decide_eq_true (by omega)
          have fin := hS.1.1.ch
          clear hS hrow hby hx z0 z1 hbig hrows HR
          go_wp2_with fail
          refine (answers6 _).mono ?_
          rintro e w4 ⟨rfl, hC4⟩
          have F : True1 w (.returned (.bool true)) w4 := ⟨rfl, (fin.trans ((Chg.refl NoB wr).alloc _) (fun _ _ x => x)).trans hC4 (fun _ _ x => x)⟩
          clear hC4 fin x0 x1
          go_wp2_with fail
          go_ret
          exact F
        · have hd1 : decide (50 < (xl : Int)) = false := decide_eq_false (by omega)
          obtain ⟨r, hr⟩ := hS.2.2.2.2.1
          obtain ⟨⟨SVs, own1, els1⟩, oz1⟩ := hS.2.2.2.1
          obtain ⟨b1, l1, sv0, sv1, hst⟩ := els1 0 (by rw [hr]; simp)
          have hsn : sts.length = r.length + 1 := by rw [hr]; rfl
          obtain ⟨g0, e1⟩ : ∃ g0, As = some ⟨g0, 0, none⟩ := by
            rcases own1.2 with ⟨e, h0⟩ | ⟨g', cap, cur, e, _⟩
            · omega
            · injection e with e1 _ _; exact ⟨_, e1⟩
          subst e1
          have s0 : wr.cell? ⟨g0, 0, none⟩ = some b1 := own1.cells (g := g0) rfl _ _ sv0
          have s1 : wr.cell? ⟨g0, 1, none⟩ = some l1 := own1.cells (g := g0) rfl _ _ sv1
          replace hst : StIn w wr ρ1 j b1 l1 (base, ws) := by rw [hr] at hst; exact hst
          obtain ⟨⟨Bb, cb, rfl, hbb⟩, hWl, hOl, hb50, hl65⟩ := hst
          dsimp only at hbb hWl hOl hb50 hl65 s0
          have cA : Chg NoB wr (wr.alloc (.cells #[.bool xb, .slice xA xl xc] 61)) := (Chg.refl NoB wr).alloc _
          replace s0 := cA.cell s0 (fun x => x)
          replace s1 := cA.cell s1 (fun x => x)
          obtain ⟨Cl, cl, TVs, rfl, e1, e2, e3, e4, e5⟩ := hWl.rowsC
          obtain ⟨r1, r2, r3, r4⟩ := rd_of_row hrow (by omega)
          have r5 : xA = none → xc = 0 := fun e => by
            rcases hrow with ⟨_, _, h, _⟩ | ⟨x, h, _⟩
            · exact h
            · rw [h] at e; cases e
          have H := Lib.hid (And.intro hS (And.intro hbb (And.intro hWl (And.intro hOl (And.intro hb50 (And.intro hl65 (And.intro r1 (And.intro r2 (And.intro r3 (And.intro r5 hby))))))))))
          have hsl : 0 < sts.length := by omega
          have hs2 : (0 : Int) < (sts.length : Int) := by omega
          clear hS hbb hWl hOl hb50 hl65 r1 r2 r3 r4 r5 hby hrow hx z0 z1 hrows own1 els1 oz1 sv0 sv1 hbig hr hsn
          generalize hN1 : sts.length = n1 at *
          have HN1 := Lib.hid hN1
          generalize hN2 : ws.length = n2 at *
          have HN2 := Lib.hid hN2
          clear hN1 hN2
          go_upto_region 17 with fail
          have cB : Chg NoB wr ((wr.alloc (.cells #[.bool xb, .slice xA xl xc] 61)).alloc (.cells #[.slice Bb base.length cb, .slice Cl n2 cl] 66)) := cA.alloc _
          have bA : Blk ((wr.alloc (.cells #[.bool xb, .slice xA xl xc] 61)).alloc (.cells #[.slice Bb base.length cb, .slice Cl n2 cl] 66)) wr.heap.size #[.bool xb, .slice xA xl xc] 61 := blk_up (blk_new rfl)
          have bS : Blk ((wr.alloc (.cells #[.bool xb, .slice xA xl xc] 61)).alloc (.cells #[.slice Bb base.length cb, .slice Cl n2 cl] 66)) (wr.heap.size + 1) #[.slice Bb base.length cb, .slice Cl n2 cl] 66 := blk_new (by simp)
          have zW : ((wr.alloc (.cells #[.bool xb, .slice xA xl xc] 61)).alloc (.cells #[.slice Bb base.length cb, .slice Cl n2 cl] 66)).heap.size = wr.heap.size + 2 := by simp
          generalize hWW : (wr.alloc (.cells #[.bool xb, .slice xA xl xc] 61)).alloc (.cells #[.slice Bb base.length cb, .slice Cl n2 cl] 66) = W at *
          clear hWW s0 s1 x0 x1 cA
          have y0 : ∀ w', Chg NoB W w' → w'.cell? ⟨wr.heap.size, 0, none⟩ = some (.bool xb) ∧ w'.cell? ⟨wr.heap.size, 1, none⟩ = some (.slice xA xl xc) ∧ w'.cell? ⟨wr.heap.size + 1, 0, none⟩ = some (.slice Bb base.length cb) ∧ w'.cell? ⟨wr.heap.size + 1, 1, none⟩ = some (.slice Cl n2 cl) := fun w' hc => by
            have h1 := hc.blk (show Blk W _ _ _ from bA) (fun x => x)
            have h2 := hc.blk (show Blk W _ _ _ from bS) (fun x => x)
            exact ⟨by rw [bcell h1]; rfl, by rw [bcell h1]; rfl, by rw [bcell h2]; rfl, by rw [bcell h2]; rfl⟩
          obtain ⟨s0, s1, s2, s3⟩ := y0 W (Chg.refl _ _)
          have HXl := Lib.hid (show ∀ v, v = Value.slice Cl n2 cl → v = .slice Cl TVs.length cl from fun v h => by rw [e1]; exact h)
          have hz : ∀ w', Chg NoB W w' → 0 < TVs.length → ∃ ad, Cl = some ad ∧ ∀ j v, TVs[j]? = some v → w'.cell? (ad.add j) = some v := fun w' hc hp => by
            obtain ⟨ad, q1, q2⟩ := e4 hp
            exact ⟨ad, q1, fun j v hj => hc.cell (cB.cell (q2 j v hj) (fun x => x)) (fun x => x)⟩
          have hw65 : TVs.length ≤ 65 := by rw [e1]; exact H.out.2.2.2.2.2.1
          have b1 : 0 + TVs.length ≤ 9223372036854775807 := by omega
          have b2 : (0 + TVs.length) * 24 ≤ 140737488355328 := by omega
          have hOne : ∀ u ∈ [Value.slice xA xl xc], u.oneCell' = true := fun u hu => by rw [List.mem_singleton] at hu; rw [hu]; rfl
          have b3 : 0 + TVs.length + [Value.slice xA xl xc].length ≤ 9223372036854775807 := by simp; omega
          have b4 : (0 + TVs.length + [Value.slice xA xl xc].length) * 24 ≤ 140737488355328 := by simp; omega
          have cv4 : ∀ (v4 : Value) (w4 : World), w4.ownsRow W.heap.size 31 1 v4 (0 + TVs.length + [Value.slice xA xl xc].length) ([] ++ TVs ++ [.slice xA xl xc]) → w4.ownsRow W.heap.size 31 1 v4 (n2 + 1) (TVs ++ [.slice xA xl xc]) := fun v4 w4 h => by
            rw [show 0 + TVs.length + [Value.slice xA xl xc].length = n2 + 1 by simp; omega, List.nil_append] at h
            exact h
          have zW2 : wr.heap.size + 2 ≤ W.heap.size := Nat.le_of_eq zW.symm
          have bA6 : ∀ w', Chg NoB W w' → Blk w' wr.heap.size #[.bool xb, .slice xA xl xc] 61 := fun w' hc => hc.blk (show Blk W _ _ _ from bA) (fun x => x)
          have hin : ∀ (v4 : Value) (w4 : World), w4.ownsRow W.heap.size 31 1 v4 (n2 + 1) (TVs ++ [.slice xA xl xc]) → StIn w w4 ρ1 j (.slice Bb base.length cb) v4 (base, ws ++ [xz.take xl]) := fun v4 w4 h => by
            refine jcN_in H.out.1.1 ⟨Bb, cb, rfl, H.out.2.1⟩ H.out.2.2.2.2.1 (SVs := TVs) (B := xA) (cB := xc) (by rw [HN2.out]; exact e1) (by rw [HN2.out]; exact e5) (jcs_w65 H.out.1) H.out.2.2.2.2.2.2.1 (base' := W.heap.size) (by omega) ?_
            rw [H.out.2.2.2.2.2.2.2.1, HN2.out]
            exact h
          have FA : ∀ A4 c4 w4, w4.ownsRow W.heap.size 31 1 (.slice A4 (n2 + 1) c4) (n2 + 1) (TVs ++ [.slice xA xl xc]) → Chg NoB W w4 → JcN w wr ρ1 j base (ws ++ [xz.take xl]) (.slice Bb base.length cb) xb (.slice xA xl xc) (.pointer (some ⟨w4.heap.size, 0, none⟩)) (w4.alloc (.cells #[.slice Bb base.length cb, .slice A4 (n2 + 1) c4] 66)) := fun A4 c4 w4 h hc =>
            jcN_new (hin _ _ h) (cB.trans hc (fun _ _ x => x)) (bA6 w4 hc)
          have FB : ∀ g A4 c4 w4, w4.ownsRow W.heap.size 31 1 (.slice A4 (n2 + 1) c4) (n2 + 1) (TVs ++ [.slice xA xl xc]) → Chg NoB W w4 → Blk w4 g #[.slice none 0 0, .slice none 0 0] 66 → wr.heap.size < g → JcN w wr ρ1 j base (ws ++ [xz.take xl]) (.slice Bb base.length cb) xb (.slice xA xl xc) (.pointer (some ⟨g, 0, none⟩)) ((w4.setCell ⟨g, 0, none⟩ (.slice Bb base.length cb)).setCell ⟨g, 1, none⟩ (.slice A4 (n2 + 1) c4)) := fun g A4 c4 w4 h hc t4 hg =>
            jcN_set (hin _ _ h) (cB.trans hc (fun _ _ x => x)) (bA6 w4 hc) hg t4
          have HF := Lib.hid (And.intro FA FB)
          have HZ := Lib.hid (And.intro hz (And.intro e1 (And.intro e2 (And.intro e3 (And.intro b1 (And.intro b2 (And.intro e5 (And.intro y0 (And.intro cB (And.intro zW cv4))))))))))
          clear hz e1 e2 e3 e4 b1 b2 e5 y0 cB hw65 bA bS zW cv4 bA6 hin FA FB
          go_cut [22] (fun v wx => JcN w wr ρ1 j base (ws ++ [xz.take xl]) (.slice Bb base.length cb) xb (.slice xA xl xc) v wx)
          case first =>
            go_region_held3 (fun w' => w'.cell? ⟨wr.heap.size, 1, none⟩ = some (.slice xA xl xc) ∧ w'.cell? ⟨wr.heap.size + 1, 0, none⟩ = some (.slice Bb base.length cb) ∧ w'.cell? ⟨wr.heap.size + 1, 1, none⟩ = some (.slice Cl n2 cl)) (first | ((with_reducible refine ⟨?_, ?_, ?_⟩) <;> (repeat (first | (with_reducible assumption) | (with_reducible apply cell_up) | (with_reducible apply cell_drew))); done) | (refine ⟨set2 x41 ?_, set2 x42 ?_, set2 x43 ?_⟩ <;> omega) | go_keep)
              ((first
                | (show if Region.wanted (Oper.mk (some 84) _ _ _ _ _) _ = true then _ else _; refine step_append_src W.heap.size rfl (.tmp 80) (.tmp 83) 23 31 rfl (.slice none 0 0) 24 Try.underlying23 info24 rfl v3 (0 + TVs.length) ([] ++ TVs) rfl ?_ ?_ [.slice xA xl xc] _ 1 rfl (fun x => by cases x) ?_ hOne b3 b4 ?_; (· have hq := hC3'.size; first | (simp; done) | omega | (simp; omega)); (· repeat (first | (with_reducible exact hown3) | (with_reducible apply own_alloc) | (with_reducible apply own_drew))); (· refine one_src ?_; repeat (first | ((with_reducible refine cell_at ?_); first | (simp; done) | omega | (simp; omega)) | (with_reducible apply cell_up) | (with_reducible apply cell_drew) | ((with_reducible refine cell_thru0 hC3 ?_ ?_); rotate_left; (· first | (simp; done) | omega)))); intro v4 w4 hown4' hC4; have hown4 := HZ.out.2.2.2.2.2.2.2.2.2.2 v4 w4 hown4'; obtain ⟨A4, c4, rfl, _⟩ := own_cells hown4; have hC4' : Chg NoB W w4 := (by refine Chg.trans ?_ hC4 ?_; (repeat (first | exact hC3' | apply Chg.alloc | apply Chg.drew)); exact (fun i hi x => by have := (own_ge hown3 i x).1; omega)); obtain ⟨x40, x41, x42, x43⟩ := HZ.out.2.2.2.2.2.2.2.1 w4 hC4'; (first | (refine_lift have t4 : Blk w4 W.heap.size #[.slice none 0 0, .slice none 0 0] 66 := blk_thru1 hown3 hC4 ?_ ?_; ?_; rotate_left; (· intro g C T h; repeat (first | with_reducible exact h | (with_reducible apply blk_up) | (with_reducible apply blk_drew))); (· repeat (first | with_reducible exact t3 | ((with_reducible refine blk_new ?_); first | (simp; done) | omega | (simp; omega)) | (with_reducible apply blk_up) | (with_reducible apply blk_drew))); obtain ⟨u0, u1, u2, u3⟩ := blk_facts t4) | (refine_lift have t4 : Blk w4 (W.heap.size + 1) #[.slice none 0 0, .slice none 0 0] 66 := blk_thru1 hown3 hC4 ?_ ?_; ?_; rotate_left; (· intro g C T h; repeat (first | with_reducible exact h | (with_reducible apply blk_up) | (with_reducible apply blk_drew))); (· repeat (first | with_reducible exact t3 | ((with_reducible refine blk_new ?_); first | (simp; done) | omega | (simp; omega)) | (with_reducible apply blk_up) | (with_reducible apply blk_drew))); obtain ⟨u0, u1, u2, u3⟩ := blk_facts t4) | (refine_lift have t4 : Blk w4 (W.heap.size + 2) #[.slice none 0 0, .slice none 0 0] 66 := blk_thru1 hown3 hC4 ?_ ?_; ?_; rotate_left; (· intro g C T h; repeat (first | with_reducible exact h | (with_reducible apply blk_up) | (with_reducible apply blk_drew))); (· repeat (first | with_reducible exact t3 | ((with_reducible refine blk_new ?_); first | (simp; done) | omega | (simp; omega)) | (with_reducible apply blk_up) | (with_reducible apply blk_drew))); obtain ⟨u0, u1, u2, u3⟩ := blk_facts t4) | (refine_lift have t4 : Blk w4 w3.heap.size #[.slice none 0 0, .slice none 0 0] 66 := blk_thru1 hown3 hC4 ?_ ?_; ?_; rotate_left; (· intro g C T h; repeat (first | with_reducible exact h | (with_reducible apply blk_up) | (with_reducible apply blk_drew))); (· repeat (first | with_reducible exact t3 | ((with_reducible refine blk_new ?_); first | (simp; done) | omega | (simp; omega)) | (with_reducible apply blk_up) | (with_reducible apply blk_drew))); obtain ⟨u0, u1, u2, u3⟩ := blk_facts t4) | (refine_lift have t4 : Blk w4 (w3.heap.size + 1) #[.slice none 0 0, .slice none 0 0] 66 := blk_thru1 hown3 hC4 ?_ ?_; ?_; rotate_left; (· intro g C T h; repeat (first | with_reducible exact h | (with_reducible apply blk_up) | (with_reducible apply blk_drew))); (· repeat (first | with_reducible exact t3 | ((with_reducible refine blk_new ?_); first | (simp; done) | omega | (simp; omega)) | (with_reducible apply blk_up) | (with_reducible apply blk_drew))); obtain ⟨u0, u1, u2, u3⟩ := blk_facts t4) | skip))
                | (show if Region.wanted (Oper.mk (some 80) _ _ _ _ _) _ = true then _ else _; refine step_append_src W.heap.size rfl (.tmp 77) (.tmp 79) 23 31 rfl (.slice none 0 0) 24 Try.underlying23 info24 rfl (.slice (some ⟨_, 0, none⟩) 0 0) 0 [] rfl ?_ ?_ TVs Cl cl (HXl.out _ rfl) HZ.out.2.2.1 ?_ HZ.out.2.2.2.1 HZ.out.2.2.2.2.1 HZ.out.2.2.2.2.2.1 ?_; (· first | (simp; done) | omega | (simp; omega)); (· repeat (first | ((with_reducible refine lit_at ?_ ?_) <;> (first | (simp; done) | omega | (simp; omega))) | (with_reducible apply own_alloc) | (with_reducible apply own_drew))); (· refine HZ.out.1 _ ?_; (repeat (first | exact Chg.refl _ _ | apply Chg.alloc | apply Chg.drew))); intro v3 w3 hown3 hC3; have hC3' : Chg NoB W w3 := (by refine chg_new (w0 := W) ?_ ?_ hC3; (repeat (first | exact Chg.refl _ _ | apply Chg.alloc | apply Chg.drew)); first | (simp; done) | omega | (simp; omega)); obtain ⟨x30, x31, x32, x33⟩ := HZ.out.2.2.2.2.2.2.2.1 w3 hC3'; have z3 : W.heap.size ≤ w3.heap.size := hC3'.size; (first | (refine_lift have t3 : Blk w3 W.heap.size #[.slice none 0 0, .slice none 0 0] 66 := blk_thru0 hC3 ?_ ?_; ?_; rotate_left; (· first | (simp; done) | omega); (· repeat (first | ((with_reducible refine blk_new ?_); first | (simp; done) | omega | (simp; omega)) | (with_reducible apply blk_up) | (with_reducible apply blk_drew)))) | (refine_lift have t3 : Blk w3 (W.heap.size + 1) #[.slice none 0 0, .slice none 0 0] 66 := blk_thru0 hC3 ?_ ?_; ?_; rotate_left; (· first | (simp; done) | omega); (· repeat (first | ((with_reducible refine blk_new ?_); first | (simp; done) | omega | (simp; omega)) | (with_reducible apply blk_up) | (with_reducible apply blk_drew)))) | (refine_lift have t3 : Blk w3 (W.heap.size + 2) #[.slice none 0 0, .slice none 0 0] 66 := blk_thru0 hC3 ?_ ?_; ?_; rotate_left; (· first | (simp; done) | omega); (· repeat (first | ((with_reducible refine blk_new ?_); first | (simp; done) | omega | (simp; omega)) | (with_reducible apply blk_up) | (with_reducible apply blk_drew)))) | skip))))
            all_goals (go_wp2_with fail; go_meet)
            all_goals first | exact HF.out.1 _ _ _ hown4 hC4' | exact HF.out.2 _ _ _ _ hown4 hC4' t4 (by omega)
          case rest =>
            obtain ⟨p, v4, rfl, hC5, hp5, bA5, bN5, hs5⟩ := hcut
            have hS5 := H.out.1.keep hC5
            obtain ⟨A4, k4, c4, rfl⟩ : ∃ A4 k4 c4, v4 = .slice A4 k4 c4 := by
              obtain ⟨A', c', e, _⟩ := hs5.2.1.rows hS5.1.1.ch
              exact ⟨_, _, _, e⟩
            have hm1 : m ≤ 1000 := by omega
            have hn1 : n1 ≤ 102 := by
              have h1 := H.out.1.2.2.2.2.2.2.2
              have h2 := HN1.out
              omega
            obtain ⟨h50, r2⟩ : (xz.take xl).length ≤ 50 ∧ (xz.take xl).length = xl := by
              have := H.out.2.2.2.2.2.2.2.1
              have h1 := of_decide_eq_false hd1
              exact ⟨by omega, this⟩
            have hbl : Bytes (xz.take xl) := fun y hy => by have := H.out.2.2.2.2.2.2.2.2.2.2 y hy; omega
            have hca := jc_app hS5 hm1 xA xc (xz.take xl) h50 H.out.2.2.2.2.2.2.1 hbl hs5
            have hS6 := H.out.1.keep (jc_setC (v1 := .slice xA xl xc) (v2 := .slice none 0 0) hC5 hp5)
            have hcr := jc_reb hS6 hm1 xA xc (xz.take xl) h50 H.out.2.2.2.2.2.2.1 (by rw [r2]; exact H.out.2.2.2.2.2.2.2.2.1) hbl (jcN_base H.out.2.2.2.2.2.2.1 h50 (by rw [r2]; exact H.out.2.2.2.2.2.2.2.2.1) H.out.2.2.2.2.2.2.2.2.2.1 hbl)
            rw [r2] at hca hcr
            have y0 : wc.cell? ⟨wr.heap.size, 0, none⟩ = some (.bool xb) := by rw [bcell bA5]; rfl
            have y1 : wc.cell? ⟨wr.heap.size, 1, none⟩ = some (.slice xA xl xc) := by rw [bcell bA5]; rfl
            have y2 := set2 (v1 := .slice xA xl xc) (v2 := .slice none 0 0) y1 (show wr.heap.size ≠ p by omega)
            have p0 : wc.cell? ⟨p, 0, none⟩ = some (.slice Bb base.length cb) := by rw [bcell bN5]; rfl
            have p1 : wc.cell? ⟨p, 1, none⟩ = some (.slice A4 k4 c4) := by rw [bcell bN5]; rfl
            have q0 := bfroz bN5 0
            have q1 := bfroz bN5 1
            have fa : ∀ E w7, Chg (fun i => Own ρ1 i ∨ i = j) wc w7 → JcTo w wc j d (.slice (some ⟨g0, 0, none⟩) n1 cs) m ρ1 (.slice Bb base.length cb) (.slice A4 k4 c4) sts (.returned (.int .i64 E)) w7 → JcF w j d (.slice (some ⟨g0, 0, none⟩) n1 cs) m ρ1 sts p (.int .i64 E) w7 := fun E w7 hc ht =>
              ⟨_, _, _, _, _, _, _, ht, jc_over H.out.1.1 (by omega) bN5 hc⟩
            have fr : ∀ E w7, Chg (fun i => Own ρ1 i ∨ i = j) ((wc.setCell ⟨p, 0, none⟩ (.slice xA xl xc)).setCell ⟨p, 1, none⟩ (.slice none 0 0)) w7 → JcTo w ((wc.setCell ⟨p, 0, none⟩ (.slice xA xl xc)).setCell ⟨p, 1, none⟩ (.slice none 0 0)) j d (.slice (some ⟨g0, 0, none⟩) n1 cs) m ρ1 (.slice xA xl xc) (.slice none 0 0) sts (.returned (.int .i64 E)) w7 → JcF w j d (.slice (some ⟨g0, 0, none⟩) n1 cs) m ρ1 sts p (.int .i64 E) w7 := fun E w7 hc ht =>
              ⟨_, _, _, _, _, _, _, ht, jc_over H.out.1.1 (by omega) (jc_set bN5) hc⟩
            have HQ := Lib.hid (And.intro fa fr)
            clear fa fr hS5 hS6 hs5 bA5 bN5 h50 r2 hbl hC5 HF HZ H
            go_upto_if 87 with fail
            go_cut [23] (fun v wx => JcF w j d (.slice (some ⟨g0, 0, none⟩) n1 cs) m ρ1 sts p v wx)
            case first =>
              cases xb with
              | true =>
                clear hca
                go_wp2_with fail
                refine hcr.mono ?_
                intro e w7 hto
                obtain ⟨E, rfl, hC7, ht2⟩ := id hto
                have ft := Lib.hid (HQ.out.2 E w7 hC7 hto)
                clear hto ht2 hC7 hcr
                go_wp2_with fail
                go_meet
                exact ft.out
              | false =>
                clear hcr
                go_wp2_with fail
                refine hca.mono ?_
                intro e w7 hto
                obtain ⟨E, rfl, hC7, ht2⟩ := id hto
                have ft := Lib.hid (HQ.out.1 E w7 hC7 hto)
                clear hto ht2 hC7 hca
                go_wp2_with fail
                go_meet
                exact ft.out
            case rest =>
              obtain ⟨W6, B1, k1, c1, B2, k2, c2, ⟨E, he, hC7, hto⟩, b7⟩ := hcut
              injection he with he
              subst he
              clear hca hcr y0 y1 y2 p0 p1 q0 q1 HQ hC7
              have p0 : wc.cell? ⟨p, 0, none⟩ = some (.slice B1 k1 c1) := by rw [bcell b7]; rfl
              have p1 : wc.cell? ⟨p, 1, none⟩ = some (.slice B2 k2 c2) := by rw [bcell b7]; rfl
              clear b7
              rcases hto with ⟨rfl, hQ⟩ | ⟨rfl, hQ⟩ | ⟨hE, SVs, hown, hbs, hto⟩
              · have F := Lib.hid hQ
                clear hQ
                go_wp2_with fail
                go_roundg (200 - (m + 1))
                case measure => omega
                case rel => exact ⟨m + 1, by omega, rfl, rfl, F.out⟩
              · have F := Lib.hid hQ
                clear hQ
                go_wp2_with fail
                go_roundg (200 - (m + 1))
                case measure => omega
                case rel => exact ⟨m + 1, by omega, rfl, rfl, F.out⟩
              · have F := Lib.hid hto
                rw [HN1.out] at hown F
                have o1 : n1 + 1 ≤ 9223372036854775807 := Nat.le_trans (Nat.succ_le_succ hn1) (by decide)
                have o2 : (n1 + 1) * 48 ≤ 140737488355328 := Nat.le_trans (Nat.mul_le_mul_right 48 (Nat.succ_le_succ hn1)) (by decide)
                clear hto
                rcases hE with rfl | rfl
                · go_wp2_with (first | (at_builtin; go_loud (refine append_two (w := wc) (base := w.heap.size) rfl (.tmp 105) (.tmp 107) 67 66 rfl (.agg #[.slice none 0 0, .slice none 0 0]) 48 Try.underlying67 info66 rfl (.slice (some ⟨g0, 0, none⟩) n1 cs) n1 SVs (by rfl) hbs hown (.slice B1 k1 c1) (.slice B2 k2 c2) _ (by rfl) rfl rfl o1 o2 ?_); intro v' w8 hown' hCo hwh; have F2 := Lib.hid (F.out v' w8 hown' hCo hwh)) | go_in)
                  go_roundg (200 - (m + 1))
                  case measure => omega
                  case rel => exact ⟨m + 1, by omega, rfl, rfl, F2.out⟩
                · go_wp2_with (first | (at_builtin; go_loud (refine append_two (w := wc) (base := w.heap.size) rfl (.tmp 105) (.tmp 107) 67 66 rfl (.agg #[.slice none 0 0, .slice none 0 0]) 48 Try.underlying67 info66 rfl (.slice (some ⟨g0, 0, none⟩) n1 cs) n1 SVs (by rfl) hbs hown (.slice B1 k1 c1) (.slice B2 k2 c2) _ (by rfl) rfl rfl o1 o2 ?_); intro v' w8 hown' hCo hwh; have F2 := Lib.hid (F.out v' w8 hown' hCo hwh)) | go_in)
                  go_meet
                  exact ⟨m + 1, by omega, F2.out⟩
      · have F := Lib.hid (show JcE w j d _ wr from ⟨m, by omega, ρ1, s, g, base, ws, AP, RB, sts, hS⟩)
        have hm2 : m = N := by omega
        clear hS
        go_wp2_with fail
        go_meet
        exact F.out
    case rest =>
      obtain ⟨m, hm, ρ, s, g, base, ws, AP, RB, sts, hS⟩ := hcut
      clear hB HR
      obtain ⟨As, cs, rfl, _⟩ := hS.2.2.2.1.rows hS.1.1.ch
      have hsl : sts.length ≤ 200 := by have := hS.2.2.2.2.2.2.2; omega
      have hcr := jc_crash hS (by omega) keep torn k0 k1
      have HL := Lib.hid hsl
      clear hS hsl hm
      go_wp2_with fail
      refine hcr.mono ?_
      rintro e w4 ⟨ρ4, s4, f, rfl, hD, hs, hS4, hfd⟩
      have ho := jc_open torn hD hs hS4
      have H4 := Lib.hid (And.intro hs hfd)
      clear hcr hD hs hS4 hfd
      go_wp2_with fail
      refine ho.mono ?_
      rintro e w5 ⟨j5, B, cB, A5, k5, c5, rfl, hR, hk, q1, q2⟩
      have H5 := Lib.hid (And.intro hR (And.intro hk (And.intro q1 q2)))
      have hB : SecB w w5 d ρ4 s4 (.slice none 0 0) (.int .i64 0) w5 := ⟨0, by omega, rfl, Chg.refl _ _, SRows.nil _ _ _, hR.1⟩
      have hcalm : Disk.Calm s4 := H4.out.1.1
      have hn : 100 ≤ s4.n := by rw [H4.out.1.2.1]; decide
      have hw0 := hR.1.ch.size
      have hρ : ∀ i, Own ρ4 i → i < w5.heap.size := own_lt_size hR.1
      have HK := Lib.hid (And.intro hcalm (And.intro hn (And.intro hw0 hρ)))
      clear ho hR hk q1 q2 hcalm hn hw0 hρ
      go_wp2_with fail
      go_loopw [28, 29] (fun out i wr => SecB w w5 d ρ4 s4 out i wr) (fun _ i wr => (100 - intOf i).toNat)
      case atStart => exact hB
      case round =>
        clear hB
        obtain ⟨m, hm, rfl, hC, hL, hD⟩ := hrel
        by_cases hlt : m < 100
        · have hrd := l_read (m : Int) hD
          have e0 : s4.ioE m = 0 := calm_ioE HK.out.1 (by omega) (by have := HK.out.2.1; omega)
          have eio : s4.io m = s4 := calm_io HK.out.1 m
          have H := Lib.hid (And.intro hC (And.intro hL (And.intro e0 eio)))
          have hsz := hC.size
          clear hC hL hD e0 eio
          go_wp2_with fail
          refine hrd.mono ?_
          rintro e w6 ⟨v, rfl, hD, hc2, hrow, _⟩
          obtain ⟨g, hrow, hgw⟩ := hrow H.out.2.2.1
          rw [H.out.2.2.1]
          rw [H.out.2.2.2] at hD
          have hL2 := H.out.2.1.chg hc2 HK.out.2.2.2
          obtain ⟨SVs, hown, hels⟩ := hL2
          have hbase : w5.heap.size ≤ w6.heap.size := by have := hc2.size; omega
          have HR := Lib.hid (And.intro hrow (And.intro hc2 hD))
          obtain ⟨_, _, cp, Cq, rfl, _⟩ := hrow
          have fin : ∀ v' w7, w7.ownsRow w5.heap.size 31 1 v' (m + 1) (SVs ++ [.slice (some ⟨g, 0, none⟩) 64 cp]) → Chg (fun i => u28.ownBlock = some i) w6 w7 → SecB w w5 d ρ4 s4 v' (.int .i64 ((m : Int) + 1)) w7 := by
            intro v' w7 h4 hc4
            have hw0 := HK.out.2.2.1
            have nO : ∀ i, u28.ownBlock = some i → w5.heap.size ≤ i := fun i hi => (own_ge hown i hi).1
            have hd3 := HR.out.2.2
            have hDD : DL w w7 d ρ4 s4 := by
              cases ho : u28.ownBlock with
              | none => exact hd3.keep (hc4.mono (fun i _ x => by rw [ho] at x; cases x))
              | some g' =>
                have hg' := nO g' ho
                refine hd3.side (g := g') (hc4.mono (fun i _ x => by rw [ho] at x; exact (Option.some.inj x).symm)) ?_ (by omega)
                by_cases c : ρ4 g' = 0
                · exact c
                · have := HK.out.2.2.2 g' c; omega
            exact ⟨m + 1, by omega, rfl, (H.out.1.trans HR.out.2.1 (fun _ _ x => x)).trans hc4 (fun i hi x => by have := nO i x; omega), SRows.add hels hown h4 hc4 HR.out.1 (by omega), hDD⟩
          have FI := Lib.hid fin
          clear fin hrd H hc2 hels HR hD
          go_wp2_with (first | (at_builtin; go_loud (refine append_own2 (w := w6) (base := w5.heap.size) rfl (.tmp 132) (.tmp 134) 23 31 rfl (.slice none 0 0) 24 Try.underlying23 info24 rfl u28 m SVs (by rfl) hbase hown (.slice (some ⟨g, 0, none⟩) 64 cp) 31 (by rfl) rfl (by omega) (by omega) ?_); intro v' w7 hown' hCo))
          exact ⟨FI.out v' w7 hown' hCo, by simp [intOf]; omega⟩
        · obtain rfl : m = 100 := by omega
          obtain ⟨hR, hk, q1, q2⟩ := H5.out
          have hR8 := hR.go hC hD
          obtain ⟨As8, c8, rfl, hc8, hI⟩ := hL.sin
          obtain ⟨ad, _, _, rfl, _⟩ := hI 0 (by omega)
          have hld := hR8.load H4.out.1 ad c8 hc8 hI
          have hs := H4.out.1
          have hfd := H4.out.2 k5 hk q1 q2
          have H8 := Lib.hid (And.intro hR8 (And.intro hI (And.intro hk (And.intro q1 (And.intro q2 (And.intro hs hfd))))))
          clear hC hD hL hR hR8 hI hk q1 q2 hs hfd
          go_wp2_with fail
          refine hld.mono ?_
          rintro e w9 ⟨C, cC, rfl, hC9, hrC, g0, g1⟩
          obtain ⟨hR8, hI, hk, q1, q2, hs, hfd⟩ := H8.out
          have hR9 := hR8.keep hC9
          have hI9 := sin_of (hI.keep hC9)
          have hsl := HL.out
          have M1 := fun w' (hc : Chg NoB w9 w') => (hR9.keep hc).one hk hsl
          have M2 := fun w' (hc : Chg NoB w9 w') => (hR9.keep hc).clash hsl g0 g1
          have M3 := fun w' (hc : Chg NoB w9 w') => (hR9.keep hc).same (cC := cC) (hrC.chg hc (fun _ _ _ x => x))
          have M4 := fun w' (hc : Chg NoB w9 w') => records_100 (loadOf f).1 (some ad) c8 _ w' g0 g1 (hI9.keep hc)
          have M5 := fun w4 w' A6 m6 c6 (hc : Chg NoB w9 w') (hm6 : m6 ≤ 64) (hR6 : RRows w4 w' (fun j => s4.get (j : Int)) (loadOf f).1 (.slice A6 m6 c6) m6) (hRR : Log.Rows w' A6 (recsF (fun j => s4.get (j : Int)) (loadOf f).1 m6)) (hno : m6 = 64 ∨ recOf (s4.get (m6 : Int)) (loadOf f).1 m6 = none) => (hR9.keep hc).sameAll hs hk q1 q2 hm6 hR6 hRR hno
          have M6 : ∀ w', Chg NoB w9 w' → True1 w (.returned (.bool true)) w' := fun w' hc => ⟨rfl, hR9.1.ch.trans hc (fun _ _ x => x)⟩
          clear hld hC9 hrC H8 hR8 hI hk q1 q2 hs hR9 hI9 hsl HL HK H5 H4
          by_cases c1 : ((loadOf f).2, recs s4 (loadOf f).1 k5) ∈ sts
          · rw [decide_eq_true c1] at M1
            have MM := Lib.hid (And.intro M1 (And.intro M2 (And.intro M3 (And.intro M4 (And.intro M5 M6)))))
            clear M1 M2 M3 M4 M5 M6 hfd c1 g0 g1
            go_wp2_with (first | ((with_reducible refine (answers6 _).mono ?_); rintro e w10 ⟨rfl, hC10⟩; have cc := hC10; have a1 := MM.out.1 w10 cc) | ((with_reducible refine a1.mono ?_); rintro e w11 ⟨rfl, hC11⟩; have cc := cc.trans hC11 (fun _ _ x => x); have a2 := MM.out.2.1 w11 cc; have a3 := MM.out.2.2.1 w11 cc) | ((with_reducible refine a3.mono ?_); rintro e w13 ⟨rfl, hC13⟩; have cc := cc.trans hC13 (fun _ _ x => x); have a4 := MM.out.2.2.2.1 w13 cc) | ((with_reducible refine a4.mono ?_); rintro e w14 ⟨v6, m6, rfl, hC14, hm6, hR6, hno6⟩; obtain ⟨A6, c6, rfl, hRR⟩ := hR6.rows hC14; have cc := cc.trans hC14 (fun _ _ x => x); have a5 := MM.out.2.2.2.2.1 w13 w14 A6 m6 c6 cc hm6 hR6 hRR hno6) | ((with_reducible refine a5.mono ?_); rintro e w15 ⟨rfl, hC15⟩; have cc := cc.trans hC15 (fun _ _ x => x); have fin := Lib.hid (MM.out.2.2.2.2.2 w15 cc)) | go_in)
            go_ret
            exact fin.out
          · rw [decide_eq_false c1] at M1
            have hfd := hfd.resolve_left c1
            by_cases t1 : 0 < torn
            · have d1 : decide (0 < torn) = true := decide_eq_true t1
              by_cases t2 : torn < 64
              · have d2 : decide (torn < 64) = true := decide_eq_true t2
                have MM := Lib.hid (And.intro M1 (And.intro M2 (And.intro M3 (And.intro M4 (And.intro M5 M6)))))
                clear M1 M2 M3 M4 M5 M6 hfd c1 g0 g1
                go_wp2_with (first | ((with_reducible refine (answers6 _).mono ?_); rintro e w10 ⟨rfl, hC10⟩; have cc := hC10; have a1 := MM.out.1 w10 cc) | ((with_reducible refine a1.mono ?_); rintro e w11 ⟨rfl, hC11⟩; have cc := cc.trans hC11 (fun _ _ x => x); have a2 := MM.out.2.1 w11 cc; have a3 := MM.out.2.2.1 w11 cc) | ((with_reducible refine a3.mono ?_); rintro e w13 ⟨rfl, hC13⟩; have cc := cc.trans hC13 (fun _ _ x => x); have a4 := MM.out.2.2.2.1 w13 cc) | ((with_reducible refine a4.mono ?_); rintro e w14 ⟨v6, m6, rfl, hC14, hm6, hR6, hno6⟩; obtain ⟨A6, c6, rfl, hRR⟩ := hR6.rows hC14; have cc := cc.trans hC14 (fun _ _ x => x); have a5 := MM.out.2.2.2.2.1 w13 w14 A6 m6 c6 cc hm6 hR6 hRR hno6) | ((with_reducible refine a5.mono ?_); rintro e w15 ⟨rfl, hC15⟩; have cc := cc.trans hC15 (fun _ _ x => x); have fin := Lib.hid (MM.out.2.2.2.2.2 w15 cc)) | go_in)
                go_ret
                exact fin.out
              · have d2 : decide (torn < 64) = false := decide_eq_false t2
                rw [hfd.resolve_left (fun x => t2 x.2)] at M2
                have MM := Lib.hid (And.intro M1 (And.intro M2 (And.intro M3 (And.intro M4 (And.intro M5 M6)))))
                clear M1 M2 M3 M4 M5 M6 hfd c1 g0 g1
                go_wp2_with (first | ((with_reducible refine (answers6 _).mono ?_); rintro e w10 ⟨rfl, hC10⟩; have cc := hC10; have a1 := MM.out.1 w10 cc) | ((with_reducible refine a1.mono ?_); rintro e w11 ⟨rfl, hC11⟩; have cc := cc.trans hC11 (fun _ _ x => x); have a2 := MM.out.2.1 w11 cc; have a3 := MM.out.2.2.1 w11 cc) | ((with_reducible refine a2.mono ?_); rintro e w12 ⟨rfl, hC12⟩; have cc := cc.trans hC12 (fun _ _ x => x); have a3 := MM.out.2.2.1 w12 cc) | ((with_reducible refine a3.mono ?_); rintro e w13 ⟨rfl, hC13⟩; have cc := cc.trans hC13 (fun _ _ x => x); have a4 := MM.out.2.2.2.1 w13 cc) | ((with_reducible refine a4.mono ?_); rintro e w14 ⟨v6, m6, rfl, hC14, hm6, hR6, hno6⟩; obtain ⟨A6, c6, rfl, hRR⟩ := hR6.rows hC14; have cc := cc.trans hC14 (fun _ _ x => x); have a5 := MM.out.2.2.2.2.1 w13 w14 A6 m6 c6 cc hm6 hR6 hRR hno6) | ((with_reducible refine a5.mono ?_); rintro e w15 ⟨rfl, hC15⟩; have cc := cc.trans hC15 (fun _ _ x => x); have fin := Lib.hid (MM.out.2.2.2.2.2 w15 cc)) | go_in)
                go_ret
                exact fin.out
            · have d1 : decide (0 < torn) = false := decide_eq_false t1
              rw [hfd.resolve_left (fun x => t1 x.1)] at M2
              have MM := Lib.hid (And.intro M1 (And.intro M2 (And.intro M3 (And.intro M4 (And.intro M5 M6)))))
              clear M1 M2 M3 M4 M5 M6 hfd c1 g0 g1
              go_wp2_with (first | ((with_reducible refine (answers6 _).mono ?_); rintro e w10 ⟨rfl, hC10⟩; have cc := hC10; have a1 := MM.out.1 w10 cc) | ((with_reducible refine a1.mono ?_); rintro e w11 ⟨rfl, hC11⟩; have cc := cc.trans hC11 (fun _ _ x => x); have a2 := MM.out.2.1 w11 cc; have a3 := MM.out.2.2.1 w11 cc) | ((with_reducible refine a2.mono ?_); rintro e w12 ⟨rfl, hC12⟩; have cc := cc.trans hC12 (fun _ _ x => x); have a3 := MM.out.2.2.1 w12 cc) | ((with_reducible refine a3.mono ?_); rintro e w13 ⟨rfl, hC13⟩; have cc := cc.trans hC13 (fun _ _ x => x); have a4 := MM.out.2.2.2.1 w13 cc) | ((with_reducible refine a4.mono ?_); rintro e w14 ⟨v6, m6, rfl, hC14, hm6, hR6, hno6⟩; obtain ⟨A6, c6, rfl, hRR⟩ := hR6.rows hC14; have cc := cc.trans hC14 (fun _ _ x => x); have a5 := MM.out.2.2.2.2.1 w13 w14 A6 m6 c6 cc hm6 hR6 hRR hno6) | ((with_reducible refine a5.mono ?_); rintro e w15 ⟨rfl, hC15⟩; have cc := cc.trans hC15 (fun _ _ x => x); have fin := Lib.hid (MM.out.2.2.2.2.2 w15 cc)) | go_in)
              go_ret
              exact fin.out
theorem jcu64 {n : Int} (h : (Lit.int .u64 n).wf = true) : 0 ≤ n ∧ n < 18446744073709551616 := by
  simp only [Lit.wf, Bool.and_eq_true, decide_eq_true_eq] at h
  have e1 : IntKind.u64.min = 0 := rfl
  have e2 : IntKind.u64.max = 18446744073709551615 := rfl
  omega
theorem jci64 {n : Int} (h : (Lit.int .i64 n).wf = true) : -9223372036854775808 ≤ n ∧ n ≤ 9223372036854775807 := by
  simp only [Lit.wf, Bool.and_eq_true, decide_eq_true_eq] at h
  have e1 : IntKind.i64.min = -9223372036854775808 := rfl
  have e2 : IntKind.i64.max = 9223372036854775807 := rfl
  omega
theorem journalCrash_row (a0 : Option Addr) (len0 cap0 : Nat) (z0 : Nat → ActV) (a1 a2 a3 a4 a5 : Int) (W : World) (w0 : IsActs W a0 len0 cap0 z0) (w1 : (Lit.int .i64 a1).wf = true) (w2 : (Lit.int .i64 a2).wf = true) (w3 : (Lit.int .i64 a3).wf = true) (w4 : (Lit.int .u64 a4).wf = true) (w5 : (Lit.int .i64 a5).wf = true) :
    Calls Try.prog 11 #[.slice a0 len0 cap0, .int .i64 a1, .int .i64 a2, .int .i64 a3, .int .u64 a4, .int .i64 a5] W fun e w' => e = .returned (.bool true) ∧ Below W.heap.size W w' :=
  (journalCrash a0 len0 cap0 z0 a1 a2 a3 a4 a5 W w0 (fun i hi y hy => by
    rcases w0 with ⟨_, h0, _⟩ | ⟨ad, e, _, _, hall⟩
    · omega
    · rcases (hall i hi).2 with ⟨h1, h2, h3, h4⟩ | ⟨x, h1, h2, h3, h4, h5, h6⟩
      · rw [h4] at hy; simp at hy
      · exact u8b6 (h6 y (List.mem_of_mem_take hy))) (jci64 w1).2 (jci64 w2).2 (jci64 w3).2 (jcu64 w4).1 (jcu64 w4).2).mono fun _ _ h => h.row
end Go.Proofs.Ytmonkoclbcahiaa.Jour
