/- A disk: Flush. -/
import Derived.Test.YtmonkoclbcahiaaDiskE
import Derived.Test.YtmonkoclbcahiaaRange
namespace Go.Proofs.Ytmonkoclbcahiaa.Disk
open Go.RowKit Go.Proofs.Ytmonkoclbcahiaa.Hp Go.Proofs.Ytmonkoclbcahiaa.By
set_option linter.unusedVariables false
set_option linter.unusedSimpArgs false
def DSt.sureAll (s : DSt) : DSt := { s with sure := fun k => (s.loose k).getD (s.sure k), loose := fun _ => none }
def DSt.flE (s : DSt) : Int := s.num.work.2
def DSt.fl (s : DSt) : DSt := if s.num.work.2 = 0 then ({ s with num := s.num.work.1 } : DSt).sureAll else { s with num := s.num.work.1 }
def FlushPost (w : World) (d : Nat) (ρ : Nat → Nat) (s : DSt) (e : Ending) (w' : World) : Prop :=
  ∃ ρ', e = .returned (.int .i64 s.flE) ∧ DiskAt w' d ρ' s.fl ∧ Chg (Own ρ) w w' ∧ ∀ i, ρ' i ≠ 0 ↔ ρ i ≠ 0
/-- what was loose is sure -/
theorem DP.sureAll {w1 w3 : World} {d : Nat} {ρ : Nat → Nat} {s : DSt} {sv mb cap : Nat} {SV : Nat → Value} {SB : Nat → Nat} {LV : Nat → Value} {LB : Nat → Nat} (h : DP w1 d ρ s sv mb cap SV SB LV LB) (hc : Chg (fun i => i = sv ∨ i = mb) w1 w3)
    (C : Array Value) (hC : Blk w3 sv C 31) (hS : ∀ i, i < s.n → C[i]? = some (if (s.loose i).isSome then LV i else SV i)) (hm : MapAt w3 mb (fun _ => none)) :
    DP w3 d (fun i => if 5 ≤ ρ i ∧ ρ i % 2 = 1 then ρ i - 1 else ρ i) s.sureAll sv mb cap (fun i => if (s.loose i).isSome then LV i else SV i) (fun i => if (s.loose i).isSome then LB i else SB i) LV LB := by
  have out : ∀ i, ρ i ≠ 2 → ρ i ≠ 3 → ¬ (i = sv ∨ i = mb) := fun i h2 h3 x => by
    rcases x with x | x
    · rw [x, h.r2] at h2; exact h2 rfl
    · rw [x, h.r3] at h3; exact h3 rfl
  refine ⟨hc.blk h.b (out d (by rw [h.r1]; decide) (by rw [h.r1]; decide)), h.ok, h.n1, h.n2, h.nc, ⟨C, hC, hS⟩, fun i hi => ?_, ?_, fun k l hk => absurd (show (none : Option (List Int)) = some l from hk) (by simp), ?_, ?_, ?_, fun i hi => ?_, fun k l hk => absurd (show (none : Option (List Int)) = some l from hk) (by simp), fun i hi => ?_⟩
  · show Row w3 (if (s.loose i).isSome then LV i else SV i) (if (s.loose i).isSome then LB i else SB i) ((s.loose i).getD (s.sure i))
    cases hl : s.loose i with
    | none =>
      have h4 := h.r4 i hi
      exact (h.su i hi).chg hc (out _ (by omega) (by omega))
    | some l =>
      have h5 := h.r5 i l hl
      exact (h.lo i l hl).2.chg hc (out _ (by omega) (by omega))
  · rw [show looseM s.sureAll LV = fun _ => none by funext k; unfold looseM DSt.sureAll; split <;> rfl]
    exact hm
  · show (if 5 ≤ ρ d ∧ ρ d % 2 = 1 then ρ d - 1 else ρ d) = 1
    rw [h.r1]; decide
  · show (if 5 ≤ ρ sv ∧ ρ sv % 2 = 1 then ρ sv - 1 else ρ sv) = 2
    rw [h.r2]; decide
  · show (if 5 ≤ ρ mb ∧ ρ mb % 2 = 1 then ρ mb - 1 else ρ mb) = 3
    rw [h.r3]; decide
  · show (if 5 ≤ ρ (if (s.loose i).isSome then LB i else SB i) ∧ ρ (if (s.loose i).isSome then LB i else SB i) % 2 = 1 then ρ (if (s.loose i).isSome then LB i else SB i) - 1 else ρ (if (s.loose i).isSome then LB i else SB i)) = 4 + 2 * i
    cases hl : s.loose i with
    | none =>
      have h4 := h.r4 i hi
      simp only [Option.isSome_none, Bool.false_eq_true, if_false]
      rw [if_neg (by omega)]; exact h4
    | some l =>
      have h5 := h.r5 i l hl
      simp only [Option.isSome_some, if_true]
      rw [if_pos (by omega)]; omega
  · show (if 5 ≤ ρ i ∧ ρ i % 2 = 1 then ρ i - 1 else ρ i) = 0
    rw [h.rz i (by have := hc.size; omega)]; decide
theorem role_iff (ρ : Nat → Nat) (i : Nat) : (if 5 ≤ ρ i ∧ ρ i % 2 = 1 then ρ i - 1 else ρ i) ≠ 0 ↔ ρ i ≠ 0 := by split <;> omega
theorem looseM_some {s : DSt} {LV : Nat → Value} {k : Int} {v : Value} (h : looseM s LV k = some v) : ∃ (n : Nat) (l : List Int), k = n ∧ s.loose n = some l ∧ v = LV n := by
  unfold looseM at h
  by_cases c : 0 ≤ k
  · rw [if_pos c] at h
    cases hl : s.loose k.toNat with
    | none => rw [hl] at h; cases h
    | some l => rw [hl] at h; exact ⟨k.toNat, l, by omega, hl, (Option.some.inj h).symm⟩
  · rw [if_neg c] at h; cases h
/-- the loop of Flush, under way -/
def FlR (w1 : World) (s : DSt) (sv mb r : Nat) (SV LV : Nat → Value) (wr : World) : Prop :=
  ∃ left C, Ranging wr mb r (looseM s LV) left ∧ Blk wr sv C 31 ∧ (∀ i, i < s.n → C[i]? = some (if (s.loose i).isSome = true ∧ left i = false then LV i else SV i)) ∧ Chg (· = sv) w1 wr
theorem flr_end {w1 wr w3 : World} {d : Nat} {ρ : Nat → Nat} {s : DSt} {sv mb cap : Nat} {SV : Nat → Value} {SB : Nat → Nat} {LV : Nat → Value} {LB : Nat → Nat} (h : DP w1 d ρ s sv mb cap SV SB LV LB) {left : Int → Bool} {C : Array Value}
    (hl : ∀ k, left k = false) (hC : Blk wr sv C 31) (hS : ∀ i, i < s.n → C[i]? = some (if (s.loose i).isSome = true ∧ left i = false then LV i else SV i)) (hch : Chg (· = sv) w1 wr) (hm : MapAt w3 mb (fun _ => none)) (hc : Chg (· = mb) wr w3) :
    DiskAt w3 d (fun i => if 5 ≤ ρ i ∧ ρ i % 2 = 1 then ρ i - 1 else ρ i) s.sureAll ∧ Chg (Own ρ) w1 w3 := by
  have ne : ¬ sv = mb := fun x => by have h3 := h.r3; rw [← x, h.r2] at h3; cases h3
  have c1 : Chg (fun i => i = sv ∨ i = mb) w1 w3 := (hch.mono (fun _ _ x => .inl x)).trans (hc.mono (fun _ _ x => .inr x)) (fun _ _ x => x)
  refine ⟨⟨_, _, _, _, _, _, _, h.sureAll c1 C (hc.blk hC ne) (fun i hi => ?_) hm⟩, c1.mono (fun i _ x => ?_)⟩
  · rw [hS i hi]
    simp [hl]
  · rcases x with rfl | rfl
    · show ρ i ≠ 0
      rw [h.r2]; decide
    · show ρ i ≠ 0
      rw [h.r3]; decide
theorem flr_step {w1 wr w2 : World} {d : Nat} {ρ : Nat → Nat} {s : DSt} {sv mb cap : Nat} {SV : Nat → Value} {SB : Nat → Nat} {LV : Nat → Value} {LB : Nat → Nat} (h : DP w1 d ρ s sv mb cap SV SB LV LB) {r : Nat} (hr : w1.heap.size ≤ r) {left : Int → Bool} {C : Array Value} {k : Nat}
    (hC : Blk wr sv C 31) (hS : ∀ i, i < s.n → C[i]? = some (if (s.loose i).isSome = true ∧ left i = false then LV i else SV i)) (hch : Chg (· = sv) w1 wr)
    (hlk : (s.loose k).isSome = true) (hR : Ranging w2 mb r (looseM s LV) (fun j => left j && !(j == (k : Int)))) (hc : Chg (· = r) wr w2) : FlR w1 s sv mb r SV LV (w2.setCell ⟨sv, k, none⟩ (LV k)) := by
  have hsz : sv < w1.heap.size := by obtain ⟨C0, hC0, _⟩ := h.sr; exact blt hC0
  have n1 : ¬ sv = r := by omega
  have n2 : ¬ mb = sv := fun x => by have h3 := h.r3; rw [x, h.r2] at h3; cases h3
  have c2 : Chg (· = sv) w2 (w2.setCell ⟨sv, k, none⟩ (LV k)) := Chg.set (S := (· = sv)) (Chg.refl _ w2) (p := ⟨sv, k, none⟩) (.inl rfl) _
  refine ⟨_, _, hR.chg c2 n2 (by omega), bset (hc.blk hC n1) k (LV k), fun i hi => ?_, (hch.trans (hc.mono (S' := fun i => i = sv ∨ w1.heap.size ≤ i) (fun _ _ x => .inr (by omega))) (fun i hi x => by rcases x with x | x; exact x; omega)).trans c2 (fun _ _ x => x)⟩
  rw [Array.getElem?_setIfInBounds]
  by_cases e : k = i
  · subst e
    have : k < C.size := by
      have := hS k hi
      exact (Array.getElem?_eq_some_iff.1 this).1
    rw [if_pos rfl, if_pos this, hlk]
    simp
  · rw [if_neg e, hS i hi]
    have e' : ¬ ((i : Int) = (k : Int)) := by omega
    by_cases q : (s.loose i).isSome = true ∧ left i = false
    · rw [if_pos q, if_pos ⟨q.1, by rw [q.2]; rfl⟩]
    · rw [if_neg q, if_neg]
      intro q2
      apply q
      refine ⟨q2.1, ?_⟩
      have := q2.2
      simp [e'] at this
      exact this
set_option maxHeartbeats 2000000 in
theorem flush_in (d : Nat) (ρ : Nat → Nat) (s : DSt) (w : World) (h : DiskAt w d ρ s) (e0 : s.num.work.2 = 0) : Calls Try.prog 36 #[.pointer (some ⟨d, 0, none⟩)] w (FlushPost w d ρ s) := by
  obtain ⟨sv, mb, cap, SV, SB, LV, LB, h⟩ := h
  have hwk := work_any d _ _ s.num w h.b h.ok
  rw [show WorkPost w d (.slice (some ⟨sv, 0, none⟩) s.n cap) (.map (some mb)) s.num = fun e w' => e = .returned (.int .i64 0) ∧ DB w' d (.slice (some ⟨sv, 0, none⟩) s.n cap) (.map (some mb)) s.num.work.1 ∧ Chg (· = d) w w' by unfold WorkPost; rw [e0]] at hwk
  have n2 := h.n2
  have nc := h.nc
  have H := Lib.hid (And.intro h e0)
  clear h e0
  go_enter Try.func36, Try.ntmps36
  go_wp2_with fail
  refine hwk.mono ?_
  rintro e w1 ⟨rfl, hb1, hc1⟩
  clear hwk
  have hp := H.out.1.nums _ (DN.work_ok H.out.1.ok) hb1 hc1
  obtain ⟨k0, k1, _, _, _, _⟩ := six hb1
  have hfl : s.fl = DSt.sureAll { s with num := s.num.work.1 } := by unfold DSt.fl; rw [if_pos H.out.2]
  have hle : s.flE = 0 := H.out.2
  obtain ⟨s2, hs2⟩ : ∃ s2 : DSt, s2 = { s with num := s.num.work.1 } := ⟨_, rfl⟩
  rw [← hs2] at hp hfl
  have hn2 : s2.n = s.n := by rw [hs2]
  have hmp := hp.mp
  have hdl : d < w1.heap.size := blt hp.b
  have hds : ¬ d = sv := fun x => by have h3 := hp.r2; rw [← x, hp.r1] at h3; cases h3
  have hcd : Chg (Own ρ) w w1 := hc1.mono (fun i _ hh => by rw [show i = d from hh]; show ρ d ≠ 0; rw [hp.r1]; decide)
  have hdm : ¬ d = mb := fun x => by have h3 := hp.r3; rw [← x, hp.r1] at h3; cases h3
  have hsl : sv < w1.heap.size := by obtain ⟨C0, hC0, _⟩ := hp.sr; exact blt hC0
  have hA : ∀ w2, Chg NoB w1 w2 → Ranging w2 mb w1.heap.size (looseM s2 LV) (fun k => (looseM s2 LV k).isSome) → FlR w1 s2 sv mb w1.heap.size SV LV w2 := by
    intro w2 hc hr
    obtain ⟨C, hC, hS⟩ := hp.sr
    refine ⟨_, C, hr, hc.blk hC (fun x => x), fun i hi => ?_, hc.mono (fun _ _ x => x.elim)⟩
    rw [hS i hi, if_neg]
    rintro ⟨h1, h2⟩
    unfold looseM at h2
    rw [if_pos (by omega), Int.toNat_natCast] at h2
    cases hl : s2.loose i with
    | none => rw [hl] at h1; cases h1
    | some l => rw [hl] at h2; cases h2
  have HP := Lib.hid (And.intro hp (And.intro hcd (And.intro hfl hle)))
  have HA := Lib.hid hA
  clear hA hc1 hb1 hcd hs2 hp hfl hle
  go_wp2_with (first | (at_range; refine range_at rfl _ 74 rfl 3 31 Try.underlying74 mb _ rfl hmp ?_; intro w2 hrg hcr) | go_in)
  go_frame
  have hF := HA.out w2 hcr hrg
  have hc2 := hcr.size
  clear HA hcr hrg hmp
  generalize hr : w1.heap.size = r at *
  have hr0 : w1.heap.size ≤ r := Nat.le_of_eq hr
  clear hr
  go_loopw [4] (fun _ wr => FlR w1 s2 sv mb r SV LV wr) (fun _ wr => wr.rangeLeft mb r)
  case atStart => exact hF
  case round =>
    clear hF
    obtain ⟨left, C, hR, hC, hS, hch⟩ := hrel
    have FIN : (∀ k, left k = false) → ∀ w3, MapAt w3 mb (fun _ => none) → Chg (· = mb) wr w3 → FlushPost w d ρ s (.returned (.int .i64 0)) w3 := fun hl w3 hm hc => by
      obtain ⟨h1, h2⟩ := flr_end HP.out.1 hl hC hS hch hm hc
      exact ⟨_, by rw [HP.out.2.2.2], by rw [HP.out.2.2.1]; exact h1, HP.out.2.1.trans h2 (fun _ _ x => x), fun i => role_iff ρ i⟩
    have ST : ∀ k v w2, left k = true → looseM s2 LV k = some v → Ranging w2 mb r (looseM s2 LV) (fun j => left j && !(j == k)) → Chg (· = r) wr w2 →
        ∃ (kn g cp : Nat), k = kn ∧ v = .slice (some ⟨g, 0, none⟩) 64 cp ∧ kn < s.n ∧ w2.cell? ⟨d, 0, none⟩ = some (Value.slice (some ⟨sv, 0, none⟩) s.n cap) ∧ (∃ x, w2.cell? ⟨sv, kn, none⟩ = some x) ∧ w2.frozen? ⟨sv, kn, none⟩ = false ∧ FlR w1 s2 sv mb r SV LV (w2.setCell ⟨sv, kn, none⟩ v) ∧ (w2.setCell ⟨sv, kn, none⟩ v).rangeLeft mb r = w2.rangeLeft mb r := by
      intro k v w2 hl hv hr2 hc
      obtain ⟨kn, l, rfl, hlo, rfl⟩ := looseM_some hv
      have hkn := (HP.out.1.lo kn l hlo).1
      have hC2 := hc.blk hC (show ¬ sv = r by omega)
      have hms : ¬ mb = sv := fun x => by have h3 := HP.out.1.r3; rw [x, HP.out.1.r2] at h3; cases h3
      obtain ⟨cp, _, hv2, _⟩ := (HP.out.1.lo kn l hlo).2.2.2
      refine ⟨kn, _, cp, rfl, hv2, by omega, hc.cell (hch.cell k0 hds) (show ¬ d = r by omega), ⟨_, (bcell hC2 kn).trans (hS kn hkn)⟩, bfroz hC2 kn, flr_step HP.out.1 hr0 hC hS hch (by rw [hlo]; rfl) hr2 hc, ?_⟩
      have c2 : Chg (· = sv) w2 (w2.setCell ⟨sv, kn, none⟩ (LV kn)) := Chg.set (S := (· = sv)) (Chg.refl _ w2) (p := ⟨sv, kn, none⟩) (.inl rfl) _
      obtain ⟨es, clock, since, seen, c0, hb, _, _, hrr, _⟩ := hr2
      unfold World.rangeLeft
      rw [hb, hrr, c2.blk hb hms, c2.blk hrr (show ¬ r = sv by omega)]
    have d1 := hch.cell k1 hds
    have hmr := hR.map
    have F1 := Lib.hid FIN
    have F2 := Lib.hid ST
    clear FIN ST hC hS hch
    go_wp2_with (first
      | (at_next; refine next_at rfl _ rfl mb r _ _ rfl hR (fun hdone => ?_) (fun k v w' hlk hv hR2 hlt hcn hen => ?_); rotate_left; obtain ⟨kn, g, cp, rfl, rfl, hkn, c0, ⟨cx, c1⟩, c2, hF, hle⟩ := F2.out k v w' hlk hv hR2 hcn; rotate_left)
      | (refine clear_at rfl _ 74 3 31 rfl Try.underlying74 mb _ rfl hmr ?_; intro w3 hm3 hc3)
      | go_in)
    · have fin := F1.out hdone w3 hm3 hc3
      clear F1 F2
      go_ret
      exact fin
    · exact ⟨hF, by rw [hle]; exact hlt⟩
theorem flush_err (d : Nat) (ρ : Nat → Nat) (s : DSt) (w : World) (h : DiskAt w d ρ s) (e0 : s.num.work.2 ≠ 0) : Calls Try.prog 36 #[.pointer (some ⟨d, 0, none⟩)] w (FlushPost w d ρ s) := by
  obtain ⟨sv, mb, cap, SV, SB, LV, LB, h⟩ := h
  have hwk := work_any d _ _ s.num w h.b h.ok
  have post : ∀ w1, DB w1 d (.slice (some ⟨sv, 0, none⟩) s.n cap) (.map (some mb)) s.num.work.1 → Chg (· = d) w w1 → FlushPost w d ρ s (.returned (.int .i64 s.num.work.2)) w1 := by
    intro w1 hb hc
    refine ⟨ρ, rfl, ?_, hc.mono (fun i _ hh => by rw [show i = d from hh]; show ρ d ≠ 0; rw [h.r1]; decide), fun i => Iff.rfl⟩
    unfold DSt.fl
    rw [if_neg e0]; exact ⟨_, _, _, _, _, _, _, h.nums _ (DN.work_ok h.ok) hb hc⟩
  have hne : (s.num.work.2 != 0) = true := by rw [bne_iff_ne]; exact e0
  have PO := Lib.hid post
  have HW := Lib.hid hwk
  clear post e0 h hwk
  go_enter Try.func36, Try.ntmps36
  go_wp2_with fail
  refine (HW.out).mono ?_
  rintro e w1 ⟨rfl, hb, hc⟩
  have P := PO.out w1 hb hc
  clear PO hb hc HW
  generalize s.num.work.2 = E at *
  go_wp2_with fail
  go_ret
  exact P
theorem flush_any (d : Nat) (ρ : Nat → Nat) (s : DSt) (w : World) (h : DiskAt w d ρ s) : Calls Try.prog 36 #[.pointer (some ⟨d, 0, none⟩)] w (FlushPost w d ρ s) := by
  by_cases e0 : s.num.work.2 = 0
  · exact flush_in d ρ s w h e0
  · exact flush_err d ρ s w h e0
theorem flush_nil (w : World) : Calls Try.prog 36 #[.pointer none] w fun e w' => e = .returned (.int .i64 1) ∧ w = w' := by
  go_enter Try.func36, Try.ntmps36
  go_wp2
  go_ret
  exact ⟨rfl, rfl⟩
end Go.Proofs.Ytmonkoclbcahiaa.Disk
