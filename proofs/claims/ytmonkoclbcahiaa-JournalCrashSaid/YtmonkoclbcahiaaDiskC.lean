/- A disk: Write. -/
import Derived.Test.YtmonkoclbcahiaaDiskB
import Derived.Deep.RegionHeld3
namespace Go.Proofs.Ytmonkoclbcahiaa.Disk
open Go.RowKit Go.Proofs.Ytmonkoclbcahiaa.Hp Go.Proofs.Ytmonkoclbcahiaa.By
set_option linter.unusedVariables false
set_option linter.unusedSimpArgs false
/-- with other bytes for a sector, not sure -/
def DSt.put (s : DSt) (n : Nat) (l : List Int) : DSt := { s with loose := fun k => if k = n then some l else s.loose k }
def DSt.wrE (s : DSt) (n : Int) (len : Nat) : Int := if len = 64 then s.ioE n else 1
def DSt.wr (s : DSt) (n : Int) (l : List Int) : DSt := if l.length = 64 then (if s.ioE n = 0 then (s.io n).put n.toNat l else s.io n) else s
def WritePost (w : World) (d : Nat) (ρ : Nat → Nat) (s : DSt) (n : Int) (l : List Int) (e : Ending) (w' : World) : Prop :=
  ∃ ρ', e = .returned (.int .i64 (s.wrE n l.length)) ∧ DiskAt w' d ρ' (s.wr n l) ∧ Chg (Own ρ) w w' ∧ ∀ i, ρ' i ≠ 0 → ρ i ≠ 0 ∨ w.heap.size ≤ i
/-- a sector's bytes lie in a new block now -/
theorem DP.put {w1 w2 w3 : World} {d : Nat} {ρ : Nat → Nat} {s : DSt} {sv mb cap : Nat} {SV : Nat → Value} {SB : Nat → Nat} {LV : Nat → Value} {LB : Nat → Nat} (h : DP w1 d ρ s sv mb cap SV SB LV LB) (hc : Chg NoB w1 w2) (n g : Nat) (l : List Int) (v : Value) (hn : n < s.n) (hr : Row w2 v g l) (hg : w1.heap.size ≤ g)
    (hm : MapAt w3 mb (updM (looseM s LV) n v)) (hc3 : Chg (· = mb) w2 w3) :
    DP w3 d (fun i => if i = g then 5 + 2 * n else ρ i) (s.put n l) sv mb cap SV SB (fun k => if k = n then v else LV k) (fun k => if k = n then g else LB k) := by
  have h2 := h.chg hc (fun _ _ x => x)
  obtain ⟨C, hC, hS⟩ := h2.sr
  have gr : ∀ i, ρ i ≠ 0 → i ≠ g := fun i hi x => hi (by rw [x]; exact h.rz g hg)
  have e : ∀ i m, ρ i = m + 1 → (if i = g then 5 + 2 * n else ρ i) = m + 1 := fun i m hm => by rw [if_neg (gr i (by omega))]; exact hm
  have nm : ∀ i m, ρ i = m → m ≠ 3 → ¬ i = mb := fun i m hm hne x => by rw [x, h.r3] at hm; omega
  have gm : g ≠ mb := fun x => (gr mb (by rw [h.r3]; decide)) x.symm
  refine ⟨hc3.blk h2.b (nm d 1 h.r1 (by decide)), h.ok, h.n1, h.n2, h.nc, ⟨C, hc3.blk hC (nm sv 2 h.r2 (by decide)), hS⟩, fun i hi => (h2.su i hi).chg hc3 (nm _ _ (h.r4 i hi) (by omega)), ?_, ?_, e d 0 h.r1, e sv 1 h.r2, e mb 2 h.r3, fun i hi => ?_, ?_, fun i hi => ?_⟩
  · have : looseM (s.put n l) (fun k => if k = n then v else LV k) = updM (looseM s LV) n v := by
      funext k
      unfold looseM updM DSt.put
      by_cases c : k = (n : Int)
      · subst c; simp
      · rw [if_neg c]
        by_cases c0 : 0 ≤ k
        · have : ¬ k.toNat = n := by omega
          simp [c0, this]
        · simp [c0]
    rw [this]; exact hm
  · intro k x hk
    show k < s.n ∧ Row w3 (if k = n then v else LV k) (if k = n then g else LB k) x
    have hk' : (if k = n then some l else s.loose k) = some x := hk
    by_cases c : k = n
    · rw [if_pos c] at hk' ⊢
      rw [if_pos c]
      obtain rfl := Option.some.inj hk'
      exact ⟨by rw [c]; exact hn, hr.chg hc3 gm⟩
    · rw [if_neg c] at hk' ⊢
      rw [if_neg c]
      exact ⟨(h2.lo k x hk').1, (h2.lo k x hk').2.chg hc3 (nm _ _ (h.r5 k x hk') (by omega))⟩
  · have h4 := h.r4 i hi
    rw [if_neg (gr _ (by omega))]; exact h4
  · intro k x hk
    show (if (if k = n then g else LB k) = g then 5 + 2 * n else ρ (if k = n then g else LB k)) = 5 + 2 * k
    have hk' : (if k = n then some l else s.loose k) = some x := hk
    by_cases c : k = n
    · rw [if_pos c, if_pos rfl, c]
    · rw [if_neg c] at hk' ⊢
      have h5 := h.r5 k x hk'
      rw [if_neg (gr _ (by omega))]; exact h5
  · show (if i = g then 5 + 2 * n else ρ i) = 0
    have hg2 : g < i := by have := hr.lt; have := hc3.size; omega
    rw [if_neg (by omega)]
    exact h.rz i (by have := hc.size; have := hc3.size; omega)
set_option maxRecDepth 100000 in
set_option maxHeartbeats 2000000 in
theorem write_in (d : Nat) (ρ : Nat → Nat) (s : DSt) (n : Nat) (ad : Addr) (c : Nat) (l : List Int) (w : World) (h : DiskAt w d ρ s) (h1 : n < s.n) (hl : l.length = 64) (hb : ∀ x ∈ l, 0 ≤ x ∧ x ≤ 255) (hr : Rd w .u8 (some ad) l) (ho : ¬ Own ρ ad.block) (e0 : s.num.work.2 = 0) : Calls Try.prog 15 #[.pointer (some ⟨d, 0, none⟩), .int .i64 n, .slice (some ad) l.length c] w (WritePost w d ρ s n l) := by
  have hsec := sectors_any d ρ s w h
  obtain ⟨sv, mb, cap, SV, SB, LV, LB, h⟩ := h
  have hwk := work_any d _ _ s.num w h.b h.ok
  have hE : s.wrE n l.length = 0 := by unfold DSt.wrE DSt.ioE; rw [if_pos hl, if_pos ⟨by omega, by omega⟩]; exact e0
  have hS : s.wr n l = ({ s with num := s.num.work.1 } : DSt).put n l := by
    unfold DSt.wr DSt.ioE DSt.io
    rw [if_pos hl, if_pos (by rw [if_pos ⟨by omega, by omega⟩]; exact e0), if_pos ⟨by omega, by omega⟩, Int.toNat_natCast]
  have n2 := h.n2
  have H := Lib.hid h
  have HW := Lib.hid (And.intro hwk (And.intro e0 (And.intro hl (And.intro hr (And.intro hE hS)))))
  have hlb : ((l.length : Int) != 64) = false := by rw [bne_eq_false_iff_eq]; omega
  clear hwk e0 h hl hr hE hS
  go_enter Try.func15, Try.ntmps15
  go_wp2_with fail
  refine hsec.mono ?_
  rintro e w1 ⟨rfl, rfl⟩
  clear hsec
  go_wp2_with fail
  refine (HW.out.1).mono ?_
  rintro e w1 ⟨rfl, hb1, hc1⟩
  rw [HW.out.2.1]
  have hp := (H.out).nums _ (DN.work_ok H.out.ok) hb1 hc1
  obtain ⟨k0, k1, k2, k3, k4, k5⟩ := six hb1
  clear k0 k2 k3 k4 k5
  go_wp2_with fail
  have hrd : Rd w1.drew .u8 (some ad) l := ((HW.out.2.2.2.1).chg hc1 (fun _ a e x => ho (by
    obtain rfl := Option.some.inj e
    show ρ ad.block ≠ 0
    rw [show ad.block = d from x, H.out.r1]; decide))).chg ((Chg.refl NoB w1).drew) (fun _ _ _ x => x)
  have hcl := clone_some ad l c w1.drew hrd
  have hup : ∀ w2 v, Chg NoB w1.drew w2 → ∃ w3, (Instr.mapUpdate 74 (.map (some mb)) (.int .i64 n) v).run Try.prog w2 = .ok () w3 ∧ MapAt w3 mb (updM (looseM { s with num := s.num.work.1 } LV) n v) ∧ Chg (· = mb) w2 w3 :=
    fun w2 v hC => run_update (P := Try.prog) 74 3 31 Try.underlying74 Try.underlying3 (hp.mp.chg (((Chg.refl NoB w1).drew).trans hC (fun _ _ x => x)) (fun x => x)) n v
  have HU := Lib.hid hup
  have hdm : ¬ d = mb := fun x => by have h3 := hp.r3; rw [← x, hp.r1] at h3; cases h3
  have HH := Lib.hid (And.intro hp hc1)
  clear hp hc1 hb1 hrd hup
  go_region_held3 (fun w' => w'.cell? ⟨d, 1, none⟩ = some (.map (some mb))) (first | go_keep | exact hc3.cell (by assumption) hdm | exact hC2.cell (by assumption) (fun x => x))
    (first | (go_at_call 40; ((with_reducible refine hcl.mono ?_); rintro e w2 ⟨v, rfl, hown, hC2⟩; obtain ⟨w3, hmu, hm3, hc3⟩ := HU.out w2 v hC2)))
  obtain ⟨g, g1, g2⟩ := row_of_own hown HW.out.2.2.1 hb
  have post : WritePost w d ρ s n l (.returned (.int .i64 0)) w3 := by
    have hp2 := HH.out.1.put ((((Chg.refl NoB w1).drew).trans hC2 (fun _ _ x => x))) n g l v h1 g1 g2 hm3 hc3
    refine ⟨fun i => if i = g then 5 + 2 * n else ρ i, by rw [HW.out.2.2.2.2.1], ?_, ?_, ?_⟩
    · rw [HW.out.2.2.2.2.2]; exact ⟨_, _, _, _, _, _, _, hp2⟩
    · refine Chg.trans (HH.out.2.mono (S' := Own ρ) (fun i _ hh => by rw [show i = d from hh]; show ρ d ≠ 0; rw [H.out.r1]; decide)) ?_ (fun i _ hh => hh)
      refine Chg.trans ((((Chg.refl (Own ρ) w1).drew).trans hC2 (fun _ _ x => x.elim))) (hc3.mono (S' := Own ρ) (fun i _ hh => by rw [show i = mb from hh]; show ρ mb ≠ 0; rw [H.out.r3]; decide)) (fun i _ hh => hh)
    · intro i hi
      by_cases e : i = g
      · right
        have := HH.out.2.size
        have e2 : w1.drew.heap.size = w1.heap.size := rfl
        omega
      · left
        have hi' : (if i = g then 5 + 2 * n else ρ i) ≠ 0 := hi
        rwa [if_neg e] at hi'
  clear hown hm3 hc3 hC2 hmu g1 g2 HH HU HW H
  go_wp2_with fail
  go_ret
  exact post
set_option maxHeartbeats 2000000 in
theorem write_err (d : Nat) (ρ : Nat → Nat) (s : DSt) (n : Nat) (A : Option Addr) (c : Nat) (l : List Int) (w : World) (h : DiskAt w d ρ s) (h1 : n < s.n) (hl : l.length = 64) (e0 : s.num.work.2 ≠ 0) : Calls Try.prog 15 #[.pointer (some ⟨d, 0, none⟩), .int .i64 n, .slice A l.length c] w (WritePost w d ρ s n l) := by
  have hsec := sectors_any d ρ s w h
  obtain ⟨sv, mb, cap, SV, SB, LV, LB, h⟩ := h
  have hwk := work_any d _ _ s.num w h.b h.ok
  have hI : s.ioE n = s.num.work.2 := if_pos ⟨by omega, by omega⟩
  have hE : s.wrE n l.length = s.num.work.2 := by unfold DSt.wrE; rw [if_pos hl, hI]
  have hS : s.wr n l = { s with num := s.num.work.1 } := by
    unfold DSt.wr DSt.io
    rw [if_pos hl, hI, if_neg e0, if_pos ⟨by omega, by omega⟩]
  have post : ∀ w1, DB w1 d (.slice (some ⟨sv, 0, none⟩) s.n cap) (.map (some mb)) s.num.work.1 → Chg (· = d) w w1 → WritePost w d ρ s n l (.returned (.int .i64 s.num.work.2)) w1 := by
    intro w1 hb hc
    refine ⟨ρ, by rw [hE], ?_, hc.mono (fun i _ hh => by rw [show i = d from hh]; show ρ d ≠ 0; rw [h.r1]; decide), fun i hi => .inl hi⟩
    rw [hS]; exact ⟨_, _, _, _, _, _, _, h.nums _ (DN.work_ok h.ok) hb hc⟩
  have hne : (s.num.work.2 != 0) = true := by rw [bne_iff_ne]; exact e0
  have hlb : ((l.length : Int) != 64) = false := by rw [bne_eq_false_iff_eq]; omega
  have n2 := h.n2
  have PO := Lib.hid post
  have HW := Lib.hid hwk
  clear post hE hS e0 h hwk hl hI
  go_enter Try.func15, Try.ntmps15
  go_wp2_with fail
  refine hsec.mono ?_
  rintro e w1 ⟨rfl, rfl⟩
  clear hsec
  go_wp2_with fail
  refine (HW.out).mono ?_
  rintro e w1 ⟨rfl, hb, hc⟩
  have P := PO.out w1 hb hc
  clear PO hb hc HW
  generalize s.num.work.2 = E at *
  go_wp2_with fail
  go_ret
  exact P
theorem write_bad (P : Option Addr) (n : Int) (V : Value) (w : World) (h : n < 0 ∨ P = none) : Calls Try.prog 15 #[.pointer P, .int .i64 n, V] w fun e w' => e = .returned (.int .i64 1) ∧ w = w' := by
  by_cases c : n < 0
  · clear h
    go_enter Try.func15, Try.ntmps15
    go_wp2_with fail
    go_ret
    exact ⟨rfl, rfl⟩
  · obtain rfl : P = none := h.resolve_left c
    have c' : 0 ≤ n := by omega
    clear h c
    go_enter Try.func15, Try.ntmps15
    go_wp2_with fail
    refine (sectors_nil _).mono ?_
    rintro e w1 ⟨rfl, rfl⟩
    go_wp2_with fail
    go_ret
    exact ⟨rfl, rfl⟩
theorem write_big (d : Nat) (ρ : Nat → Nat) (s : DSt) (n : Int) (A : Option Addr) (L c : Nat) (w : World) (h : DiskAt w d ρ s) (h0 : 0 ≤ n) (h1 : s.n ≤ n ∨ L ≠ 64) : Calls Try.prog 15 #[.pointer (some ⟨d, 0, none⟩), .int .i64 n, .slice A L c] w fun e w' => e = .returned (.int .i64 1) ∧ w = w' := by
  by_cases q : (s.n : Int) ≤ n
  · clear h1
    go_enter Try.func15, Try.ntmps15
    go_wp2_with fail
    refine (sectors_any d ρ s _ h).mono ?_
    rintro e w1 ⟨rfl, rfl⟩
    clear h
    go_wp2_with fail
    go_ret
    exact ⟨rfl, rfl⟩
  · have q' : n < s.n := by omega
    have hlb : ((L : Int) != 64) = true := by rw [bne_iff_ne]; have := h1.resolve_left q; omega
    clear q h1
    go_enter Try.func15, Try.ntmps15
    go_wp2_with fail
    refine (sectors_any d ρ s _ h).mono ?_
    rintro e w1 ⟨rfl, rfl⟩
    clear h
    go_wp2_with fail
    go_ret
    exact ⟨rfl, rfl⟩
theorem write_any (d : Nat) (ρ : Nat → Nat) (s : DSt) (n : Int) (A : Option Addr) (c : Nat) (l : List Int) (w : World) (h : DiskAt w d ρ s) (hb : ∀ x ∈ l, 0 ≤ x ∧ x ≤ 255) (hr : Rd w .u8 A l) (ho : 0 < l.length → Off A (Own ρ)) :
    Calls Try.prog 15 #[.pointer (some ⟨d, 0, none⟩), .int .i64 n, .slice A l.length c] w (WritePost w d ρ s n l) := by
  have bad : (n < 0 ∨ (s.n : Int) ≤ n ∨ l.length ≠ 64) → WritePost w d ρ s n l (.returned (.int .i64 1)) w := by
    intro hh
    have hE : s.wrE n l.length = 1 := by
      unfold DSt.wrE DSt.ioE
      by_cases q : l.length = 64
      · rw [if_pos q, if_neg (by omega)]
      · rw [if_neg q]
    have hS : s.wr n l = s := by
      unfold DSt.wr DSt.ioE DSt.io
      by_cases q : l.length = 64
      · have hn : ¬ (0 ≤ n ∧ n < (s.n : Int)) := by omega
        rw [if_pos q, if_neg hn, if_neg hn, if_neg (by decide)]
      · rw [if_neg q]
    exact ⟨ρ, by rw [hE], by rw [hS]; exact h, Chg.refl _ _, fun i hi => .inl hi⟩
  by_cases c0 : n < 0
  · refine (write_bad _ n _ w (.inl c0)).mono ?_
    rintro e w1 ⟨rfl, rfl⟩
    exact bad (.inl c0)
  by_cases c1 : (s.n : Int) ≤ n ∨ l.length ≠ 64
  · refine (write_big d ρ s n A l.length c w h (by omega) c1).mono ?_
    rintro e w1 ⟨rfl, rfl⟩
    exact bad (.inr c1)
  obtain ⟨k, rfl⟩ := Int.eq_ofNat_of_zero_le (show 0 ≤ n by omega)
  have hk : k < s.n := by omega
  have hl : l.length = 64 := by omega
  by_cases e0 : s.num.work.2 = 0
  · obtain ⟨ad, rfl, _⟩ := hr.at_ 0 (by omega)
    exact write_in d ρ s k ad c l w h hk hl hb hr (ho (by omega) ad rfl) e0
  · exact write_err d ρ s k A c l w h hk hl e0
end Go.Proofs.Ytmonkoclbcahiaa.Disk
