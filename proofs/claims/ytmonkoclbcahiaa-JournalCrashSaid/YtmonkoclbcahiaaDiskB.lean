/- A disk: its data; Sectors, Read. -/
import Derived.Test.YtmonkoclbcahiaaDisk
namespace Go.Proofs.Ytmonkoclbcahiaa.Disk
open Go.RowKit Go.Proofs.Ytmonkoclbcahiaa.Hp Go.Proofs.Ytmonkoclbcahiaa.By
set_option linter.unusedVariables false
set_option linter.unusedSimpArgs false
/-- a sector's bytes: a slice over a block of its own -/
def Row (w : World) (v : Value) (g : Nat) (l : List Int) : Prop :=
  l.length = 64 ∧ (∀ x ∈ l, 0 ≤ x ∧ x ≤ 255) ∧ ∃ cap C, v = .slice (some ⟨g, 0, none⟩) 64 cap ∧ 64 ≤ cap ∧ Blk w g C 5 ∧ 64 ≤ C.size ∧ ∀ j, j < 64 → C[j]? = some (.int .u8 (l.getD j 0))
theorem Row.chg {S : Nat → Prop} {w w' : World} {v : Value} {g : Nat} {l : List Int} (h : Row w v g l) (hc : Chg S w w') (h1 : ¬ S g) : Row w' v g l := by
  obtain ⟨a, b, cap, C, e, f, hb, r⟩ := h
  exact ⟨a, b, cap, C, e, f, hc.blk hb h1, r⟩
theorem Row.lt {w : World} {v : Value} {g : Nat} {l : List Int} (h : Row w v g l) : g < w.heap.size := by
  obtain ⟨a, b, cap, C, e, f, hb, r⟩ := h
  exact blt hb
theorem add0 (g j : Nat) : (⟨g, 0, none⟩ : Addr).add j = ⟨g, j, none⟩ := by unfold Addr.add; split <;> simp_all
theorem Row.rd {w : World} {v : Value} {g : Nat} {l : List Int} (h : Row w v g l) : Rd w .u8 (some ⟨g, 0, none⟩) l := by
  obtain ⟨a, b, cap, C, e, f, hb, r1, r2⟩ := h
  refine ⟨by omega, fun _ => ⟨_, rfl, fun j hj => ?_⟩⟩
  rw [add0, bcell hb]
  exact r2 j (by omega)
theorem row_of_own {w : World} {base : Nat} {v : Value} {l : List Int} (h : w.ownsRow base 5 1 v l.length (l.map (Value.int .u8))) (hl : l.length = 64) (hb : ∀ x ∈ l, 0 ≤ x ∧ x ≤ 255) : ∃ g, Row w v g l ∧ base ≤ g := by
  rcases h.2 with ⟨_, e⟩ | ⟨g, cap, cur, rfl, hbg, hg, h1, h2, h3, h4⟩
  · have : l = [] := by simpa using e
    subst this; simp at hl
  · refine ⟨g, ⟨hl, hb, cap, cur, by rw [hl], by omega, hg, by omega, fun j hj => ?_⟩, hbg⟩
    have e : (cur.toList.take (l.length * 1))[j]? = (l.map (Value.int .u8))[j]? := by rw [h4]
    rw [List.getElem?_take, if_pos (by omega), Array.getElem?_toList] at e
    rw [e, List.getElem?_map, List.getElem?_eq_getElem (by omega)]
    simp [hl, hj]
structure DSt where
  n : Nat
  sure : Nat → List Int
  loose : Nat → Option (List Int)
  num : DN
def looseM (s : DSt) (LV : Nat → Value) : Int → Option Value := fun k => if 0 ≤ k then (s.loose k.toNat).map (fun _ => LV k.toNat) else none
/-- A disk in memory: where everything lies; the blocks' roles keep them apart. -/
structure DP (w : World) (d : Nat) (ρ : Nat → Nat) (s : DSt) (sv mb cap : Nat) (SV : Nat → Value) (SB : Nat → Nat) (LV : Nat → Value) (LB : Nat → Nat) : Prop where
  b : DB w d (.slice (some ⟨sv, 0, none⟩) s.n cap) (.map (some mb)) s.num
  ok : s.num.ok
  n1 : 1 ≤ s.n
  n2 : s.n ≤ 4096
  nc : s.n ≤ cap
  sr : ∃ C, Blk w sv C 31 ∧ ∀ i, i < s.n → C[i]? = some (SV i)
  su : ∀ i, i < s.n → Row w (SV i) (SB i) (s.sure i)
  mp : MapAt w mb (looseM s LV)
  lo : ∀ k l, s.loose k = some l → k < s.n ∧ Row w (LV k) (LB k) l
  r1 : ρ d = 1
  r2 : ρ sv = 2
  r3 : ρ mb = 3
  r4 : ∀ i, i < s.n → ρ (SB i) = 4 + 2 * i
  r5 : ∀ k l, s.loose k = some l → ρ (LB k) = 5 + 2 * k
  rz : ∀ i, w.heap.size ≤ i → ρ i = 0
def DiskAt (w : World) (d : Nat) (ρ : Nat → Nat) (s : DSt) : Prop := ∃ sv mb cap SV SB LV LB, DP w d ρ s sv mb cap SV SB LV LB
/-- the disk's own blocks -/
abbrev Own (ρ : Nat → Nat) : Nat → Prop := fun i => ρ i ≠ 0
theorem DP.chg {S : Nat → Prop} {w w' : World} {d : Nat} {ρ : Nat → Nat} {s : DSt} {sv mb cap : Nat} {SV : Nat → Value} {SB : Nat → Nat} {LV : Nat → Value} {LB : Nat → Nat} (h : DP w d ρ s sv mb cap SV SB LV LB) (hc : Chg S w w') (h1 : ∀ i, ρ i ≠ 0 → ¬ S i) : DP w' d ρ s sv mb cap SV SB LV LB := by
  obtain ⟨C, hC, hS⟩ := h.sr
  have e : ∀ i m, ρ i = m + 1 → ¬ S i := fun i m hh => h1 i (by omega)
  refine ⟨hc.blk h.b (e _ 0 h.r1), h.ok, h.n1, h.n2, h.nc, ⟨C, hc.blk hC (e _ 1 h.r2), hS⟩, fun i hi => (h.su i hi).chg hc (h1 _ (by rw [h.r4 i hi]; omega)), h.mp.chg hc (e _ 2 h.r3), fun k l hk => ⟨(h.lo k l hk).1, (h.lo k l hk).2.chg hc (h1 _ (by rw [h.r5 k l hk]; omega))⟩, h.r1, h.r2, h.r3, h.r4, h.r5, fun i hi => h.rz i (Nat.le_trans hc.size hi)⟩
theorem DiskAt.chg {S : Nat → Prop} {w w' : World} {d : Nat} {ρ : Nat → Nat} {s : DSt} (h : DiskAt w d ρ s) (hc : Chg S w w') (h1 : ∀ i, ρ i ≠ 0 → ¬ S i) : DiskAt w' d ρ s := by
  obtain ⟨sv, mb, cap, SV, SB, LV, LB, h⟩ := h
  exact ⟨sv, mb, cap, SV, SB, LV, LB, h.chg hc h1⟩
theorem DiskAt.keep {w w' : World} {d : Nat} {ρ : Nat → Nat} {s : DSt} (h : DiskAt w d ρ s) (hc : Chg NoB w w') : DiskAt w' d ρ s := h.chg hc (fun _ _ x => x)
/-- only the struct's block has changed: other numbers -/
theorem DP.nums {w w' : World} {d : Nat} {ρ : Nat → Nat} {s : DSt} {sv mb cap : Nat} {SV : Nat → Value} {SB : Nat → Nat} {LV : Nat → Value} {LB : Nat → Nat} (h : DP w d ρ s sv mb cap SV SB LV LB) (m : DN) (hm : m.ok) (hb : DB w' d (.slice (some ⟨sv, 0, none⟩) s.n cap) (.map (some mb)) m) (hc : Chg (· = d) w w') :
    DP w' d ρ { s with num := m } sv mb cap SV SB LV LB := by
  obtain ⟨C, hC, hS⟩ := h.sr
  have e : ∀ i m, ρ i = m + 2 → ¬ i = d := fun i m hh x => by rw [x, h.r1] at hh; omega
  exact ⟨hb, hm, h.n1, h.n2, h.nc, ⟨C, hc.blk hC (e _ 0 h.r2), hS⟩, fun i hi => (h.su i hi).chg hc (e _ (2 + 2 * i) (by rw [h.r4 i hi]; omega)), h.mp.chg hc (e _ 1 h.r3), fun k l hk => ⟨(h.lo k l hk).1, (h.lo k l hk).2.chg hc (e _ (3 + 2 * k) (by rw [h.r5 k l hk]; omega))⟩, h.r1, h.r2, h.r3, h.r4, h.r5, fun i hi => h.rz i (Nat.le_trans hc.size hi)⟩
theorem sectors_any (d : Nat) (ρ : Nat → Nat) (s : DSt) (w : World) (h : DiskAt w d ρ s) : Calls Try.prog 38 #[.pointer (some ⟨d, 0, none⟩)] w fun e w' => e = .returned (.int .i64 s.n) ∧ w = w' := by
  obtain ⟨sv, mb, cap, SV, SB, LV, LB, h⟩ := h
  obtain ⟨k0, k1, k2, k3, k4, k5⟩ := six h.b
  have n1 := h.n1
  have n2 := h.n2
  clear h
  go_enter Try.func38, Try.ntmps38
  go_wp2
  go_ret
  exact ⟨rfl, rfl⟩
theorem sectors_nil (w : World) : Calls Try.prog 38 #[.pointer none] w fun e w' => e = .returned (.int .i64 0) ∧ w = w' := by
  go_enter Try.func38, Try.ntmps38
  go_wp2
  go_ret
  exact ⟨rfl, rfl⟩
/-- a sector's bytes now -/
def DSt.get (s : DSt) (n : Int) : List Int := (s.loose n.toNat).getD (s.sure n.toNat)
def DSt.ioE (s : DSt) (n : Int) : Int := if 0 ≤ n ∧ n < s.n then s.num.work.2 else 1
def DSt.io (s : DSt) (n : Int) : DSt := if 0 ≤ n ∧ n < s.n then { s with num := s.num.work.1 } else s
/-- what Read answers -/
def ReadPost (w : World) (d : Nat) (ρ : Nat → Nat) (s : DSt) (n : Int) (e : Ending) (w' : World) : Prop :=
  ∃ v, e = .returned (.tuple #[v, .int .i64 (s.ioE n)]) ∧ DiskAt w' d ρ (s.io n) ∧ Chg (Own ρ) w w' ∧ (s.ioE n = 0 → ∃ g, Row w' v g (s.get n) ∧ w.heap.size ≤ g) ∧ (s.ioE n ≠ 0 → v = .slice none 0 0)
theorem read_bad (P : Option Addr) (n : Int) (w : World) (h : n < 0 ∨ P = none) : Calls Try.prog 30 #[.pointer P, .int .i64 n] w fun e w' => e = .returned (.tuple #[.slice none 0 0, .int .i64 1]) ∧ w = w' := by
  by_cases c : n < 0
  · clear h
    go_enter Try.func30, Try.ntmps30
    go_wp2_with fail
    go_ret2
    exact ⟨rfl, rfl⟩
  · obtain rfl : P = none := h.resolve_left c
    have c' : 0 ≤ n := by omega
    clear h c
    go_enter Try.func30, Try.ntmps30
    go_wp2_with fail
    refine (sectors_nil _).mono ?_
    rintro e w1 ⟨rfl, rfl⟩
    go_wp2_with fail
    go_ret2
    exact ⟨rfl, rfl⟩
theorem read_big (d : Nat) (ρ : Nat → Nat) (s : DSt) (n : Int) (w : World) (h : DiskAt w d ρ s) (h0 : 0 ≤ n) (h1 : s.n ≤ n) : Calls Try.prog 30 #[.pointer (some ⟨d, 0, none⟩), .int .i64 n] w fun e w' => e = .returned (.tuple #[.slice none 0 0, .int .i64 1]) ∧ w = w' := by
  go_enter Try.func30, Try.ntmps30
  go_wp2_with fail
  refine (sectors_any d ρ s _ h).mono ?_
  rintro e w1 ⟨rfl, rfl⟩
  clear h
  go_wp2_with fail
  go_ret2
  exact ⟨rfl, rfl⟩
theorem slice_zero (w : World) : (zeroValue 31).run Try.prog w = .ok (.slice none 0 0) w := by kernel_rfl
set_option maxHeartbeats 2000000 in
theorem read_in (d : Nat) (ρ : Nat → Nat) (s : DSt) (n : Nat) (w : World) (h : DiskAt w d ρ s) (h1 : n < s.n) : Calls Try.prog 30 #[.pointer (some ⟨d, 0, none⟩), .int .i64 n] w (ReadPost w d ρ s n) := by
  have hsec := sectors_any d ρ s w h
  obtain ⟨sv, mb, cap, SV, SB, LV, LB, h⟩ := h
  have hwk := work_any d _ _ s.num w h.b h.ok
  have hE : s.ioE n = s.num.work.2 := if_pos ⟨by omega, by omega⟩
  have hS : s.io n = { s with num := s.num.work.1 } := if_pos ⟨by omega, by omega⟩
  have n2 := h.n2
  have nc := h.nc
  by_cases e0 : s.num.work.2 = 0
  · rw [e0] at hE
    have ans : ∀ v w1 w2, DB w1 d (.slice (some ⟨sv, 0, none⟩) s.n cap) (.map (some mb)) s.num.work.1 → Chg (· = d) w w1 → (∃ g, Row w2 v g (s.get n) ∧ w1.heap.size ≤ g) → Chg NoB w1 w2 → ReadPost w d ρ s n (.returned (.tuple #[v, .int .i64 0])) w2 := by
      intro v w1 w2 hb hc hv hc2
      refine ⟨v, by rw [hE], ?_, ?_, fun _ => ?_, fun x => absurd hE x⟩
      · rw [hS]; exact ⟨_, _, _, _, _, _, _, (h.nums _ (DN.work_ok h.ok) hb hc).chg hc2 (fun _ _ x => x)⟩
      · exact (hc.mono (S' := Own ρ) (fun i _ hh => by rw [show i = d from hh]; show ρ d ≠ 0; rw [h.r1]; omega)).trans hc2 (fun i _ hh => hh.elim)
      · obtain ⟨g, g1, g2⟩ := hv
        exact ⟨g, g1, Nat.le_trans hc.size g2⟩
    have H := Lib.hid h
    have ANS := Lib.hid ans
    have HW := Lib.hid (And.intro hwk e0)
    clear ans hwk e0 h
    go_enter Try.func30, Try.ntmps30
    go_wp2_with fail
    refine hsec.mono ?_
    rintro e w1 ⟨rfl, rfl⟩
    clear hsec
    go_wp2_with fail
    refine (HW.out.1).mono ?_
    rintro e w1 ⟨rfl, hb, hc⟩
    rw [HW.out.2]
    have hp := (H.out).nums _ (DN.work_ok H.out.ok) hb hc
    obtain ⟨k0, k1, k2, k3, k4, k5⟩ := six hb
    clear k2 k3 k4 k5
    cases hl : s.loose n with
    | some l =>
      have hm : looseM { s with num := s.num.work.1 } LV n = some (LV n) := by
        unfold looseM; rw [if_pos (by omega), Int.toNat_natCast]
        show (s.loose n).map _ = _
        rw [hl]; rfl
      have hlk := run_lookup_some (P := Try.prog) 74 3 31 Try.underlying74 Try.underlying3 hp.mp n (LV n) hm true
      have hr := (hp.lo n l hl).2
      have hget : s.get n = l := by unfold DSt.get; rw [Int.toNat_natCast, hl]; rfl
      obtain ⟨cp, C, hv, _, _⟩ := hr.2.2
      rw [hv] at hlk
      have hcl := clone_some ⟨LB n, 0, none⟩ l cp w1 hr.rd
      rw [hr.1] at hcl
      have A := Lib.hid (fun v w2 => ANS.out v w1 w2 hb hc)
      have HR := Lib.hid (And.intro hr hget)
      simp only [if_true] at hlk
      clear hr hv hm hb hc hp hget ANS H HW hl
      go_wp2_with (with_reducible refine lookup_at rfl 74 _ _ true rfl (.map (some mb)) (.int .i64 n) _ rfl rfl hlk ?_)
      refine hcl.mono ?_
      rintro e w2 ⟨v, rfl, hown, hC2⟩
      obtain ⟨g, g1, g2⟩ := row_of_own hown HR.out.1.1 HR.out.1.2.1
      have post := A.out v w2 ⟨g, by rw [HR.out.2]; exact g1, g2⟩ hC2
      clear A hcl hown hC2 g1 g2 HR
      go_wp2_with fail
      go_ret2
      exact post
    | none =>
      have hm : looseM { s with num := s.num.work.1 } LV n = none := by
        unfold looseM; rw [if_pos (by omega), Int.toNat_natCast]
        show (s.loose n).map _ = _
        rw [hl]; rfl
      have hlk := run_lookup_none (P := Try.prog) 74 3 31 Try.underlying74 Try.underlying3 hp.mp n hm _ (slice_zero w1) true
      have hr := hp.su n h1
      have hget : s.get n = s.sure n := by unfold DSt.get; rw [Int.toNat_natCast, hl]; rfl
      obtain ⟨C0, hC0, hS0⟩ := hp.sr
      have hcell : w1.cell? ⟨sv, n, none⟩ = some (SV n) := by rw [bcell hC0]; exact hS0 n h1
      obtain ⟨cp, C, hv, _, _⟩ := hr.2.2
      rw [hv] at hcell
      have hcl := clone_some ⟨SB n, 0, none⟩ (s.sure n) cp w1 hr.rd
      rw [hr.1] at hcl
      have A := Lib.hid (fun v w2 => ANS.out v w1 w2 hb hc)
      have HR := Lib.hid (And.intro hr hget)
      simp only [if_true] at hlk
      clear hr hv hm hb hc hp hget ANS H HW hl hC0 hS0
      go_wp2_with (with_reducible refine lookup_at rfl 74 _ _ true rfl (.map (some mb)) (.int .i64 n) _ rfl rfl hlk ?_)
      refine hcl.mono ?_
      rintro e w2 ⟨v, rfl, hown, hC2⟩
      obtain ⟨g, g1, g2⟩ := row_of_own hown HR.out.1.1 HR.out.1.2.1
      have post := A.out v w2 ⟨g, by rw [HR.out.2]; exact g1, g2⟩ hC2
      clear A hcl hown hC2 g1 g2 HR
      go_wp2_with fail
      go_ret2
      exact post
  · have post : ∀ w1, DB w1 d (.slice (some ⟨sv, 0, none⟩) s.n cap) (.map (some mb)) s.num.work.1 → Chg (· = d) w w1 → ReadPost w d ρ s n (.returned (.tuple #[.slice none 0 0, .int .i64 s.num.work.2])) w1 := by
      intro w1 hb hc
      refine ⟨_, by rw [hE], ?_, hc.mono (fun i _ hh => by rw [show i = d from hh]; show ρ d ≠ 0; rw [h.r1]; omega), fun x => absurd (hE ▸ x) e0, fun _ => rfl⟩
      rw [hS]; exact ⟨_, _, _, _, _, _, _, h.nums _ (DN.work_ok h.ok) hb hc⟩
    have hne : (s.num.work.2 != 0) = true := by rw [bne_iff_ne]; exact e0
    have PO := Lib.hid post
    clear post hE hS e0 h
    have HW := Lib.hid hwk
    clear hwk
    go_enter Try.func30, Try.ntmps30
    go_wp2_with fail
    refine hsec.mono ?_
    rintro e w1 ⟨rfl, rfl⟩
    clear hsec
    go_wp2_with fail
    refine (HW.out).mono ?_
    rintro e w1 ⟨rfl, hb, hc⟩
    have P := PO.out w1 hb hc
    clear PO hb hc HW
    generalize s.num.work.2 = E at *
    go_wp2_with fail
    go_ret2
    exact P
theorem read_any (d : Nat) (ρ : Nat → Nat) (s : DSt) (n : Int) (w : World) (h : DiskAt w d ρ s) : Calls Try.prog 30 #[.pointer (some ⟨d, 0, none⟩), .int .i64 n] w (ReadPost w d ρ s n) := by
  by_cases c : 0 ≤ n ∧ n < s.n
  · obtain ⟨k, rfl⟩ := Int.eq_ofNat_of_zero_le c.1
    exact read_in d ρ s k w h (by have := c.2; omega)
  · have hE : s.ioE n = 1 := if_neg c
    have hS : s.io n = s := if_neg c
    have post : ReadPost w d ρ s n (.returned (.tuple #[.slice none 0 0, .int .i64 1])) w := ⟨_, by rw [hE], by rw [hS]; exact h, Chg.refl _ _, fun x => absurd (hE ▸ x) (by decide), fun _ => rfl⟩
    by_cases c0 : n < 0
    · refine (read_bad _ n w (.inl c0)).mono ?_
      rintro e w1 ⟨rfl, rfl⟩
      exact post
    · refine (read_big d ρ s n w h (by omega) (by omega)).mono ?_
      rintro e w1 ⟨rfl, rfl⟩
      exact post
end Go.Proofs.Ytmonkoclbcahiaa.Disk
