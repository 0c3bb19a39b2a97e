/- Several texts in one (a claim holds at most 60 files). -/
import Derived.Test.YtolojkfpokmdkaaRRRgA
import Derived.Deep.RegionHeld3
import Derived.Deep.AppendLies
import Derived.Deep.RegionLaw
-- XDisk
namespace Go.Proofs.YtolojkfpokmdkaaRR.Disk
open Go.RowKit Go.Proofs.YtolojkfpokmdkaaRR.Hp Go.Proofs.YtolojkfpokmdkaaRR.By
set_option linter.unusedVariables false
set_option linter.unusedSimpArgs false
/-- how much work is done first, how much is not then, how much till the power is gone, is it gone -/
structure DN where
  first : Int
  fail : Int
  fuse : Int
  down : Bool
def DN.ok (n : DN) : Prop := (0 ≤ n.first ∧ n.first ≤ 9223372036854775807) ∧ (0 ≤ n.fail ∧ n.fail ≤ 9223372036854775807) ∧ (-1 ≤ n.fuse ∧ n.fuse ≤ 9223372036854775807)
def DN.work (n : DN) : DN × Int :=
  if n.down = true ∨ n.fuse = 0 then ({ n with down := true }, 9)
  else
    let m : DN := if 0 < n.fuse then { n with fuse := n.fuse - 1 } else n
    if 0 < n.first then ({ m with first := n.first - 1 }, 0) else if 0 < n.fail then ({ m with fail := n.fail - 1 }, 6) else (m, 0)
theorem DN.work_ok {n : DN} (h : n.ok) : n.work.1.ok := by
  unfold DN.ok at *
  unfold DN.work
  split
  · exact h
  · split
    · split
      · simp only; omega
      · split
        · simp only; omega
        · simp only; omega
    · split
      · simp only; omega
      · split
        · simp only; omega
        · exact h
/-- the disk's struct: its sectors, what is loose, its numbers -/
abbrev DB (w : World) (d : Nat) (A B : Value) (n : DN) : Prop := Blk w d #[A, B, .int .i64 n.first, .int .i64 n.fail, .int .i64 n.fuse, .bool n.down] 69
theorem six {w : World} {g : Nat} {a b c d e f : Value} {T : TypeId} (h : Blk w g #[a, b, c, d, e, f] T) : w.cell? ⟨g, 0, none⟩ = some a ∧ w.cell? ⟨g, 1, none⟩ = some b ∧ w.cell? ⟨g, 2, none⟩ = some c ∧ w.cell? ⟨g, 3, none⟩ = some d ∧ w.cell? ⟨g, 4, none⟩ = some e ∧ w.cell? ⟨g, 5, none⟩ = some f :=
  ⟨bcell h 0, bcell h 1, bcell h 2, bcell h 3, bcell h 4, bcell h 5⟩
def WorkPost (w : World) (d : Nat) (A B : Value) (n : DN) (e : Ending) (w' : World) : Prop := e = .returned (.int .i64 n.work.2) ∧ DB w' d A B n.work.1 ∧ Chg (· = d) w w'
theorem chg1 (w : World) (d i : Nat) (v : Value) : Chg (· = d) w (w.setCell ⟨d, i, none⟩ v) := Chg.set (S := (· = d)) (Chg.refl _ w) (p := ⟨d, i, none⟩) (.inl rfl) v
theorem chg2 {w w1 : World} {d : Nat} (h : Chg (· = d) w w1) (i : Nat) (v : Value) : Chg (· = d) w (w1.setCell ⟨d, i, none⟩ v) := Chg.set (S := (· = d)) h (p := ⟨d, i, none⟩) (.inl rfl) v
set_option maxHeartbeats 2000000 in
theorem work_any (d : Nat) (A B : Value) (n : DN) (w : World) (h : DB w d A B n) (hn : n.ok) : Calls Try.prog 60 #[.pointer (some ⟨d, 0, none⟩)] w (WorkPost w d A B n) := by
  obtain ⟨fi, fa, fu, dn⟩ := n
  obtain ⟨⟨a1, a2⟩, ⟨b1, b2⟩, ⟨c1, c2⟩⟩ := hn
  simp only at a1 a2 b1 b2 c1 c2
  obtain ⟨k0, k1, k2, k3, k4, k5⟩ := six h
  simp only at k2 k3 k4 k5
  have hf := bfroz h
  have fin : ∀ m E w', (DN.work ⟨fi, fa, fu, dn⟩) = (m, E) → DB w' d A B m → Chg (· = d) w w' → WorkPost w d A B ⟨fi, fa, fu, dn⟩ (.returned (.int .i64 E)) w' := by
    intro m E w' e1 e2 e3
    refine ⟨by rw [e1], by rw [e1]; exact e2, e3⟩
  have w5 : DB (w.setCell ⟨d, 5, none⟩ (.bool true)) d A B ⟨fi, fa, fu, true⟩ := bset h 5 _
  have w4 : DB (w.setCell ⟨d, 4, none⟩ (.int .i64 (fu - 1))) d A B ⟨fi, fa, fu - 1, dn⟩ := bset h 4 _
  have w42 : DB ((w.setCell ⟨d, 4, none⟩ (.int .i64 (fu - 1))).setCell ⟨d, 2, none⟩ (.int .i64 (fi - 1))) d A B ⟨fi - 1, fa, fu - 1, dn⟩ := bset w4 2 _
  have w43 : DB ((w.setCell ⟨d, 4, none⟩ (.int .i64 (fu - 1))).setCell ⟨d, 3, none⟩ (.int .i64 (fa - 1))) d A B ⟨fi, fa - 1, fu - 1, dn⟩ := bset w4 3 _
  have w2 : DB (w.setCell ⟨d, 2, none⟩ (.int .i64 (fi - 1))) d A B ⟨fi - 1, fa, fu, dn⟩ := bset h 2 _
  have w3 : DB (w.setCell ⟨d, 3, none⟩ (.int .i64 (fa - 1))) d A B ⟨fi, fa - 1, fu, dn⟩ := bset h 3 _
  by_cases z : fu = 0
  · subst z
    have post := fin ⟨fi, fa, 0, true⟩ 9 _ (by unfold DN.work; rw [if_pos (.inr rfl)]) w5 (chg1 _ _ _ _)
    clear fin w5 w4 w42 w43 w2 w3 h
    go_enter Try.func60, Try.ntmps60
    go_wp2_with fail
    go_ret
    exact post
  have zb : (fu == 0) = false := beq_eq_false_iff_ne.mpr z
  cases dn with
  | true =>
    have post := fin ⟨fi, fa, fu, true⟩ 9 w (by unfold DN.work; rw [if_pos (.inl rfl)]) h (Chg.refl _ _)
    clear fin w5 w4 w42 w43 w2 w3 h z
    go_enter Try.func60, Try.ntmps60
    go_wp2_with fail
    go_ret
    exact post
  | false =>
    have ng : ¬ ((false : Bool) = true ∨ fu = 0) := fun x => x.elim (by decide) z
    by_cases p : 0 < fu
    · by_cases q : 0 < fi
      · have post := fin ⟨fi - 1, fa, fu - 1, false⟩ 0 _ (by unfold DN.work; rw [if_neg ng]; simp only [if_pos p, if_pos q]) w42 (chg2 (chg1 _ _ _ _) _ _)
        clear fin w5 w4 w42 w43 w2 w3 h z ng
        go_enter Try.func60, Try.ntmps60
        go_wp2_with fail
        go_ret
        exact post
      · by_cases r : 0 < fa
        · have post := fin ⟨fi, fa - 1, fu - 1, false⟩ 6 _ (by unfold DN.work; rw [if_neg ng]; simp only [if_pos p, if_neg q, if_pos r]) w43 (chg2 (chg1 _ _ _ _) _ _)
          clear fin w5 w4 w42 w43 w2 w3 h z ng
          go_enter Try.func60, Try.ntmps60
          go_wp2_with fail
          go_ret
          exact post
        · have post := fin ⟨fi, fa, fu - 1, false⟩ 0 _ (by unfold DN.work; rw [if_neg ng]; simp only [if_pos p, if_neg q, if_neg r]) w4 (chg1 _ _ _ _)
          clear fin w5 w4 w42 w43 w2 w3 h z ng
          go_enter Try.func60, Try.ntmps60
          go_wp2_with fail
          go_ret
          exact post
    · by_cases q : 0 < fi
      · have post := fin ⟨fi - 1, fa, fu, false⟩ 0 _ (by unfold DN.work; rw [if_neg ng]; simp only [if_neg p, if_pos q]) w2 (chg1 _ _ _ _)
        clear fin w5 w4 w42 w43 w2 w3 h z ng
        go_enter Try.func60, Try.ntmps60
        go_wp2_with fail
        go_ret
        exact post
      · by_cases r : 0 < fa
        · have post := fin ⟨fi, fa - 1, fu, false⟩ 6 _ (by unfold DN.work; rw [if_neg ng]; simp only [if_neg p, if_neg q, if_pos r]) w3 (chg1 _ _ _ _)
          clear fin w5 w4 w42 w43 w2 w3 h z ng
          go_enter Try.func60, Try.ntmps60
          go_wp2_with fail
          go_ret
          exact post
        · have post := fin ⟨fi, fa, fu, false⟩ 0 w (by unfold DN.work; rw [if_neg ng]; simp only [if_neg p, if_neg q, if_neg r]) h (Chg.refl _ _)
          clear fin w5 w4 w42 w43 w2 w3 h z ng
          go_enter Try.func60, Try.ntmps60
          go_wp2_with fail
          go_ret
          exact post
end Go.Proofs.YtolojkfpokmdkaaRR.Disk

-- XDiskB
namespace Go.Proofs.YtolojkfpokmdkaaRR.Disk
open Go.RowKit Go.Proofs.YtolojkfpokmdkaaRR.Hp Go.Proofs.YtolojkfpokmdkaaRR.By
set_option linter.unusedVariables false
set_option linter.unusedSimpArgs false
/-- a sector's bytes: a slice over a block of its own -/
def Row (w : World) (v : Value) (g : Nat) (l : List Int) : Prop :=
  l.length = 64 ∧ (∀ x ∈ l, 0 ≤ x ∧ x ≤ 255) ∧ ∃ cap C, v = .slice (some ⟨g, 0, none⟩) 64 cap ∧ 64 ≤ cap ∧ Blk w g C 5 ∧ 64 ≤ C.size ∧ ∀ j, j < 64 → C[j]? = some (.int .u8 (l.getD j 0))
theorem Row.chg {S : Nat → Prop} {w w' : World} {v : Value} {g : Nat} {l : List Int} (h : Row w v g l) (hc : Chg S w w') (h1 : ¬ S g) : Row w' v g l := by
  obtain ⟨a, b, cap, C, e, f, hb, r⟩ := h
  exact ⟨a, b, cap, C, e, f, hc.blk hb h1, r⟩
theorem Row.lt {w : World} {v : Value} {g : Nat} {l : List Int} (h : Row w v g l) : g < w.heap.size := by
  obtain ⟨a, b, cap, C, e, f, hb, r⟩ := h
  exact blt hb
theorem add0 (g j : Nat) : (⟨g, 0, none⟩ : Addr).add j = ⟨g, j, none⟩ := by unfold Addr.add; split <;> simp_all
theorem Row.rd {w : World} {v : Value} {g : Nat} {l : List Int} (h : Row w v g l) : Rd w .u8 (some ⟨g, 0, none⟩) l := by
  obtain ⟨a, b, cap, C, e, f, hb, r1, r2⟩ := h
  refine ⟨by omega, fun _ => ⟨_, rfl, fun j hj => ?_⟩⟩
  rw [add0, bcell hb]
  exact r2 j (by omega)
theorem row_of_own {w : World} {base : Nat} {v : Value} {l : List Int} (h : w.ownsRow base 5 1 v l.length (l.map (Value.int .u8))) (hl : l.length = 64) (hb : ∀ x ∈ l, 0 ≤ x ∧ x ≤ 255) : ∃ g, Row w v g l ∧ base ≤ g := by
  rcases h.2 with ⟨_, e⟩ | ⟨g, cap, cur, rfl, hbg, hg, h1, h2, h3, h4⟩
  · have : l = [] := by simpa using e
    subst this; simp at hl
  · refine ⟨g, ⟨hl, hb, cap, cur, by rw [hl], by omega, hg, by omega, fun j hj => ?_⟩, hbg⟩
    have e : (cur.toList.take (l.length * 1))[j]? = (l.map (Value.int .u8))[j]? := by rw [h4]
    rw [List.getElem?_take, if_pos (by omega), Array.getElem?_toList] at e
    rw [e, List.getElem?_map, List.getElem?_eq_getElem (by omega)]
    simp [hl, hj]
structure DSt where
  n : Nat
  sure : Nat → List Int
  loose : Nat → Option (List Int)
  num : DN
def looseM (s : DSt) (LV : Nat → Value) : Int → Option Value := fun k => if 0 ≤ k then (s.loose k.toNat).map (fun _ => LV k.toNat) else none
/-- A disk in memory: where everything lies; the blocks' roles keep them apart. -/
structure DP (w : World) (d : Nat) (ρ : Nat → Nat) (s : DSt) (sv mb cap : Nat) (SV : Nat → Value) (SB : Nat → Nat) (LV : Nat → Value) (LB : Nat → Nat) : Prop where
  b : DB w d (.slice (some ⟨sv, 0, none⟩) s.n cap) (.map (some mb)) s.num
  ok : s.num.ok
  n1 : 1 ≤ s.n
  n2 : s.n ≤ 4096
  nc : s.n ≤ cap
  sr : ∃ C, Blk w sv C 38 ∧ ∀ i, i < s.n → C[i]? = some (SV i)
  su : ∀ i, i < s.n → Row w (SV i) (SB i) (s.sure i)
  mp : MapAt w mb (looseM s LV)
  lo : ∀ k l, s.loose k = some l → k < s.n ∧ Row w (LV k) (LB k) l
  r1 : ρ d = 1
  r2 : ρ sv = 2
  r3 : ρ mb = 3
  r4 : ∀ i, i < s.n → ρ (SB i) = 4 + 2 * i
  r5 : ∀ k l, s.loose k = some l → ρ (LB k) = 5 + 2 * k
  rz : ∀ i, w.heap.size ≤ i → ρ i = 0
def DiskAt (w : World) (d : Nat) (ρ : Nat → Nat) (s : DSt) : Prop := ∃ sv mb cap SV SB LV LB, DP w d ρ s sv mb cap SV SB LV LB
/-- the disk's own blocks -/
abbrev Own (ρ : Nat → Nat) : Nat → Prop := fun i => ρ i ≠ 0
theorem DP.chg {S : Nat → Prop} {w w' : World} {d : Nat} {ρ : Nat → Nat} {s : DSt} {sv mb cap : Nat} {SV : Nat → Value} {SB : Nat → Nat} {LV : Nat → Value} {LB : Nat → Nat} (h : DP w d ρ s sv mb cap SV SB LV LB) (hc : Chg S w w') (h1 : ∀ i, ρ i ≠ 0 → ¬ S i) : DP w' d ρ s sv mb cap SV SB LV LB := by
  obtain ⟨C, hC, hS⟩ := h.sr
  have e : ∀ i m, ρ i = m + 1 → ¬ S i := fun i m hh => h1 i (by omega)
  refine ⟨hc.blk h.b (e _ 0 h.r1), h.ok, h.n1, h.n2, h.nc, ⟨C, hc.blk hC (e _ 1 h.r2), hS⟩, fun i hi => (h.su i hi).chg hc (h1 _ (by rw [h.r4 i hi]; omega)), h.mp.chg hc (e _ 2 h.r3), fun k l hk => ⟨(h.lo k l hk).1, (h.lo k l hk).2.chg hc (h1 _ (by rw [h.r5 k l hk]; omega))⟩, h.r1, h.r2, h.r3, h.r4, h.r5, fun i hi => h.rz i (Nat.le_trans hc.size hi)⟩
theorem DiskAt.chg {S : Nat → Prop} {w w' : World} {d : Nat} {ρ : Nat → Nat} {s : DSt} (h : DiskAt w d ρ s) (hc : Chg S w w') (h1 : ∀ i, ρ i ≠ 0 → ¬ S i) : DiskAt w' d ρ s := by
  obtain ⟨sv, mb, cap, SV, SB, LV, LB, h⟩ := h
  exact ⟨sv, mb, cap, SV, SB, LV, LB, h.chg hc h1⟩
theorem DiskAt.keep {w w' : World} {d : Nat} {ρ : Nat → Nat} {s : DSt} (h : DiskAt w d ρ s) (hc : Chg NoB w w') : DiskAt w' d ρ s := h.chg hc (fun _ _ x => x)
/-- only the struct's block has changed: other numbers -/
theorem DP.nums {w w' : World} {d : Nat} {ρ : Nat → Nat} {s : DSt} {sv mb cap : Nat} {SV : Nat → Value} {SB : Nat → Nat} {LV : Nat → Value} {LB : Nat → Nat} (h : DP w d ρ s sv mb cap SV SB LV LB) (m : DN) (hm : m.ok) (hb : DB w' d (.slice (some ⟨sv, 0, none⟩) s.n cap) (.map (some mb)) m) (hc : Chg (· = d) w w') :
    DP w' d ρ { s with num := m } sv mb cap SV SB LV LB := by
  obtain ⟨C, hC, hS⟩ := h.sr
  have e : ∀ i m, ρ i = m + 2 → ¬ i = d := fun i m hh x => by rw [x, h.r1] at hh; omega
  exact ⟨hb, hm, h.n1, h.n2, h.nc, ⟨C, hc.blk hC (e _ 0 h.r2), hS⟩, fun i hi => (h.su i hi).chg hc (e _ (2 + 2 * i) (by rw [h.r4 i hi]; omega)), h.mp.chg hc (e _ 1 h.r3), fun k l hk => ⟨(h.lo k l hk).1, (h.lo k l hk).2.chg hc (e _ (3 + 2 * k) (by rw [h.r5 k l hk]; omega))⟩, h.r1, h.r2, h.r3, h.r4, h.r5, fun i hi => h.rz i (Nat.le_trans hc.size hi)⟩
theorem sectors_any (d : Nat) (ρ : Nat → Nat) (s : DSt) (w : World) (h : DiskAt w d ρ s) : Calls Try.prog 59 #[.pointer (some ⟨d, 0, none⟩)] w fun e w' => e = .returned (.int .i64 s.n) ∧ w = w' := by
  obtain ⟨sv, mb, cap, SV, SB, LV, LB, h⟩ := h
  obtain ⟨k0, k1, k2, k3, k4, k5⟩ := six h.b
  have n1 := h.n1
  have n2 := h.n2
  clear h
  go_enter Try.func59, Try.ntmps59
  go_wp2
  go_ret
  exact ⟨rfl, rfl⟩
theorem sectors_nil (w : World) : Calls Try.prog 59 #[.pointer none] w fun e w' => e = .returned (.int .i64 0) ∧ w = w' := by
  go_enter Try.func59, Try.ntmps59
  go_wp2
  go_ret
  exact ⟨rfl, rfl⟩
/-- a sector's bytes now -/
def DSt.get (s : DSt) (n : Int) : List Int := (s.loose n.toNat).getD (s.sure n.toNat)
def DSt.ioE (s : DSt) (n : Int) : Int := if 0 ≤ n ∧ n < s.n then s.num.work.2 else 1
def DSt.io (s : DSt) (n : Int) : DSt := if 0 ≤ n ∧ n < s.n then { s with num := s.num.work.1 } else s
/-- what Read answers -/
def ReadPost (w : World) (d : Nat) (ρ : Nat → Nat) (s : DSt) (n : Int) (e : Ending) (w' : World) : Prop :=
  ∃ v, e = .returned (.tuple #[v, .int .i64 (s.ioE n)]) ∧ DiskAt w' d ρ (s.io n) ∧ Chg (Own ρ) w w' ∧ (s.ioE n = 0 → ∃ g, Row w' v g (s.get n) ∧ w.heap.size ≤ g) ∧ (s.ioE n ≠ 0 → v = .slice none 0 0)
theorem read_bad (P : Option Addr) (n : Int) (w : World) (h : n < 0 ∨ P = none) : Calls Try.prog 46 #[.pointer P, .int .i64 n] w fun e w' => e = .returned (.tuple #[.slice none 0 0, .int .i64 1]) ∧ w = w' := by
  by_cases c : n < 0
  · clear h
    go_enter Try.func46, Try.ntmps46
    go_wp2_with fail
    go_ret2
    exact ⟨rfl, rfl⟩
  · obtain rfl : P = none := h.resolve_left c
    have c' : 0 ≤ n := by omega
    clear h c
    go_enter Try.func46, Try.ntmps46
    go_wp2_with fail
    refine (sectors_nil _).mono ?_
    rintro e w1 ⟨rfl, rfl⟩
    go_wp2_with fail
    go_ret2
    exact ⟨rfl, rfl⟩
theorem read_big (d : Nat) (ρ : Nat → Nat) (s : DSt) (n : Int) (w : World) (h : DiskAt w d ρ s) (h0 : 0 ≤ n) (h1 : s.n ≤ n) : Calls Try.prog 46 #[.pointer (some ⟨d, 0, none⟩), .int .i64 n] w fun e w' => e = .returned (.tuple #[.slice none 0 0, .int .i64 1]) ∧ w = w' := by
  go_enter Try.func46, Try.ntmps46
  go_wp2_with fail
  refine (sectors_any d ρ s _ h).mono ?_
  rintro e w1 ⟨rfl, rfl⟩
  clear h
  go_wp2_with fail
  go_ret2
  exact ⟨rfl, rfl⟩
theorem slice_zero (w : World) : (zeroValue 38).run Try.prog w = .ok (.slice none 0 0) w := by kernel_rfl
set_option maxHeartbeats 2000000 in
theorem read_in (d : Nat) (ρ : Nat → Nat) (s : DSt) (n : Nat) (w : World) (h : DiskAt w d ρ s) (h1 : n < s.n) : Calls Try.prog 46 #[.pointer (some ⟨d, 0, none⟩), .int .i64 n] w (ReadPost w d ρ s n) := by
  have hsec := sectors_any d ρ s w h
  obtain ⟨sv, mb, cap, SV, SB, LV, LB, h⟩ := h
  have hwk := work_any d _ _ s.num w h.b h.ok
  have hE : s.ioE n = s.num.work.2 := if_pos ⟨by omega, by omega⟩
  have hS : s.io n = { s with num := s.num.work.1 } := if_pos ⟨by omega, by omega⟩
  have n2 := h.n2
  have nc := h.nc
  by_cases e0 : s.num.work.2 = 0
  · rw [e0] at hE
    have ans : ∀ v w1 w2, DB w1 d (.slice (some ⟨sv, 0, none⟩) s.n cap) (.map (some mb)) s.num.work.1 → Chg (· = d) w w1 → (∃ g, Row w2 v g (s.get n) ∧ w1.heap.size ≤ g) → Chg NoB w1 w2 → ReadPost w d ρ s n (.returned (.tuple #[v, .int .i64 0])) w2 := by
      intro v w1 w2 hb hc hv hc2
      refine ⟨v, by rw [hE], ?_, ?_, fun _ => ?_, fun x => absurd hE x⟩
      · rw [hS]; exact ⟨_, _, _, _, _, _, _, (h.nums _ (DN.work_ok h.ok) hb hc).chg hc2 (fun _ _ x => x)⟩
      · exact (hc.mono (S' := Own ρ) (fun i _ hh => by rw [show i = d from hh]; show ρ d ≠ 0; rw [h.r1]; omega)).trans hc2 (fun i _ hh => hh.elim)
      · obtain ⟨g, g1, g2⟩ := hv
        exact ⟨g, g1, Nat.le_trans hc.size g2⟩
    have H := Lib.hid h
    have ANS := Lib.hid ans
    have HW := Lib.hid (And.intro hwk e0)
    clear ans hwk e0 h
    go_enter Try.func46, Try.ntmps46
    go_wp2_with fail
    refine hsec.mono ?_
    rintro e w1 ⟨rfl, rfl⟩
    clear hsec
    go_wp2_with fail
    refine (HW.out.1).mono ?_
    rintro e w1 ⟨rfl, hb, hc⟩
    rw [HW.out.2]
    have hp := (H.out).nums _ (DN.work_ok H.out.ok) hb hc
    obtain ⟨k0, k1, k2, k3, k4, k5⟩ := six hb
    clear k2 k3 k4 k5
    cases hl : s.loose n with
    | some l =>
      have hm : looseM { s with num := s.num.work.1 } LV n = some (LV n) := by
        unfold looseM; rw [if_pos (by omega), Int.toNat_natCast]
        show (s.loose n).map _ = _
        rw [hl]; rfl
      have hlk := run_lookup_some (P := Try.prog) 67 3 38 Try.underlying67 Try.underlying3 hp.mp n (LV n) hm true
      have hr := (hp.lo n l hl).2
      have hget : s.get n = l := by unfold DSt.get; rw [Int.toNat_natCast, hl]; rfl
      obtain ⟨cp, C, hv, _, _⟩ := hr.2.2
      rw [hv] at hlk
      have hcl := clone_some ⟨LB n, 0, none⟩ l cp w1 hr.rd
      rw [hr.1] at hcl
      have A := Lib.hid (fun v w2 => ANS.out v w1 w2 hb hc)
      have HR := Lib.hid (And.intro hr hget)
      simp only [if_true] at hlk
      clear hr hv hm hb hc hp hget ANS H HW hl
      go_wp2_with (with_reducible refine lookup_at rfl 67 _ _ true rfl (.map (some mb)) (.int .i64 n) _ rfl rfl hlk ?_)
      refine hcl.mono ?_
      rintro e w2 ⟨v, rfl, hown, hC2⟩
      obtain ⟨g, g1, g2⟩ := row_of_own hown HR.out.1.1 HR.out.1.2.1
      have post := A.out v w2 ⟨g, by rw [HR.out.2]; exact g1, g2⟩ hC2
      clear A hcl hown hC2 g1 g2 HR
      go_wp2_with fail
      go_ret2
      exact post
    | none =>
      have hm : looseM { s with num := s.num.work.1 } LV n = none := by
        unfold looseM; rw [if_pos (by omega), Int.toNat_natCast]
        show (s.loose n).map _ = _
        rw [hl]; rfl
      have hlk := run_lookup_none (P := Try.prog) 67 3 38 Try.underlying67 Try.underlying3 hp.mp n hm _ (slice_zero w1) true
      have hr := hp.su n h1
      have hget : s.get n = s.sure n := by unfold DSt.get; rw [Int.toNat_natCast, hl]; rfl
      obtain ⟨C0, hC0, hS0⟩ := hp.sr
      have hcell : w1.cell? ⟨sv, n, none⟩ = some (SV n) := by rw [bcell hC0]; exact hS0 n h1
      obtain ⟨cp, C, hv, _, _⟩ := hr.2.2
      rw [hv] at hcell
      have hcl := clone_some ⟨SB n, 0, none⟩ (s.sure n) cp w1 hr.rd
      rw [hr.1] at hcl
      have A := Lib.hid (fun v w2 => ANS.out v w1 w2 hb hc)
      have HR := Lib.hid (And.intro hr hget)
      simp only [if_true] at hlk
      clear hr hv hm hb hc hp hget ANS H HW hl hC0 hS0
      go_wp2_with (with_reducible refine lookup_at rfl 67 _ _ true rfl (.map (some mb)) (.int .i64 n) _ rfl rfl hlk ?_)
      refine hcl.mono ?_
      rintro e w2 ⟨v, rfl, hown, hC2⟩
      obtain ⟨g, g1, g2⟩ := row_of_own hown HR.out.1.1 HR.out.1.2.1
      have post := A.out v w2 ⟨g, by rw [HR.out.2]; exact g1, g2⟩ hC2
      clear A hcl hown hC2 g1 g2 HR
      go_wp2_with fail
      go_ret2
      exact post
  · have post : ∀ w1, DB w1 d (.slice (some ⟨sv, 0, none⟩) s.n cap) (.map (some mb)) s.num.work.1 → Chg (· = d) w w1 → ReadPost w d ρ s n (.returned (.tuple #[.slice none 0 0, .int .i64 s.num.work.2])) w1 := by
      intro w1 hb hc
      refine ⟨_, by rw [hE], ?_, hc.mono (fun i _ hh => by rw [show i = d from hh]; show ρ d ≠ 0; rw [h.r1]; omega), fun x => absurd (hE ▸ x) e0, fun _ => rfl⟩
      rw [hS]; exact ⟨_, _, _, _, _, _, _, h.nums _ (DN.work_ok h.ok) hb hc⟩
    have hne : (s.num.work.2 != 0) = true := by rw [bne_iff_ne]; exact e0
    have PO := Lib.hid post
    clear post hE hS e0 h
    have HW := Lib.hid hwk
    clear hwk
    go_enter Try.func46, Try.ntmps46
    go_wp2_with fail
    refine hsec.mono ?_
    rintro e w1 ⟨rfl, rfl⟩
    clear hsec
    go_wp2_with fail
    refine (HW.out).mono ?_
    rintro e w1 ⟨rfl, hb, hc⟩
    have P := PO.out w1 hb hc
    clear PO hb hc HW
    generalize s.num.work.2 = E at *
    go_wp2_with fail
    go_ret2
    exact P
theorem read_any (d : Nat) (ρ : Nat → Nat) (s : DSt) (n : Int) (w : World) (h : DiskAt w d ρ s) : Calls Try.prog 46 #[.pointer (some ⟨d, 0, none⟩), .int .i64 n] w (ReadPost w d ρ s n) := by
  by_cases c : 0 ≤ n ∧ n < s.n
  · obtain ⟨k, rfl⟩ := Int.eq_ofNat_of_zero_le c.1
    exact read_in d ρ s k w h (by have := c.2; omega)
  · have hE : s.ioE n = 1 := if_neg c
    have hS : s.io n = s := if_neg c
    have post : ReadPost w d ρ s n (.returned (.tuple #[.slice none 0 0, .int .i64 1])) w := ⟨_, by rw [hE], by rw [hS]; exact h, Chg.refl _ _, fun x => absurd (hE ▸ x) (by decide), fun _ => rfl⟩
    by_cases c0 : n < 0
    · refine (read_bad _ n w (.inl c0)).mono ?_
      rintro e w1 ⟨rfl, rfl⟩
      exact post
    · refine (read_big d ρ s n w h (by omega) (by omega)).mono ?_
      rintro e w1 ⟨rfl, rfl⟩
      exact post
end Go.Proofs.YtolojkfpokmdkaaRR.Disk

-- XDiskC
namespace Go.Proofs.YtolojkfpokmdkaaRR.Disk
open Go.RowKit Go.Proofs.YtolojkfpokmdkaaRR.Hp Go.Proofs.YtolojkfpokmdkaaRR.By
set_option linter.unusedVariables false
set_option linter.unusedSimpArgs false
/-- with other bytes for a sector, not sure -/
def DSt.put (s : DSt) (n : Nat) (l : List Int) : DSt := { s with loose := fun k => if k = n then some l else s.loose k }
def DSt.wrE (s : DSt) (n : Int) (len : Nat) : Int := if len = 64 then s.ioE n else 1
def DSt.wr (s : DSt) (n : Int) (l : List Int) : DSt := if l.length = 64 then (if s.ioE n = 0 then (s.io n).put n.toNat l else s.io n) else s
def WritePost (w : World) (d : Nat) (ρ : Nat → Nat) (s : DSt) (n : Int) (l : List Int) (e : Ending) (w' : World) : Prop :=
  ∃ ρ', e = .returned (.int .i64 (s.wrE n l.length)) ∧ DiskAt w' d ρ' (s.wr n l) ∧ Chg (Own ρ) w w' ∧ ∀ i, ρ' i ≠ 0 → ρ i ≠ 0 ∨ w.heap.size ≤ i
/-- a sector's bytes lie in a new block now -/
theorem DP.put {w1 w2 w3 : World} {d : Nat} {ρ : Nat → Nat} {s : DSt} {sv mb cap : Nat} {SV : Nat → Value} {SB : Nat → Nat} {LV : Nat → Value} {LB : Nat → Nat} (h : DP w1 d ρ s sv mb cap SV SB LV LB) (hc : Chg NoB w1 w2) (n g : Nat) (l : List Int) (v : Value) (hn : n < s.n) (hr : Row w2 v g l) (hg : w1.heap.size ≤ g)
    (hm : MapAt w3 mb (updM (looseM s LV) n v)) (hc3 : Chg (· = mb) w2 w3) :
    DP w3 d (fun i => if i = g then 5 + 2 * n else ρ i) (s.put n l) sv mb cap SV SB (fun k => if k = n then v else LV k) (fun k => if k = n then g else LB k) := by
  have h2 := h.chg hc (fun _ _ x => x)
  obtain ⟨C, hC, hS⟩ := h2.sr
  have gr : ∀ i, ρ i ≠ 0 → i ≠ g := fun i hi x => hi (by rw [x]; exact h.rz g hg)
  have e : ∀ i m, ρ i = m + 1 → (if i = g then 5 + 2 * n else ρ i) = m + 1 := fun i m hm => by rw [if_neg (gr i (by omega))]; exact hm
  have nm : ∀ i m, ρ i = m → m ≠ 3 → ¬ i = mb := fun i m hm hne x => by rw [x, h.r3] at hm; omega
  have gm : g ≠ mb := fun x => (gr mb (by rw [h.r3]; decide)) x.symm
  refine ⟨hc3.blk h2.b (nm d 1 h.r1 (by decide)), h.ok, h.n1, h.n2, h.nc, ⟨C, hc3.blk hC (nm sv 2 h.r2 (by decide)), hS⟩, fun i hi => (h2.su i hi).chg hc3 (nm _ _ (h.r4 i hi) (by omega)), ?_, ?_, e d 0 h.r1, e sv 1 h.r2, e mb 2 h.r3, fun i hi => ?_, ?_, fun i hi => ?_⟩
  · have : looseM (s.put n l) (fun k => if k = n then v else LV k) = updM (looseM s LV) n v := by
      funext k
      unfold looseM updM DSt.put
      by_cases c : k = (n : Int)
      · subst c; simp
      · rw [if_neg c]
        by_cases c0 : 0 ≤ k
        · have : ¬ k.toNat = n := by omega
          simp [c0, this]
        · simp [c0]
    rw [this]; exact hm
  · intro k x hk
    show k < s.n ∧ Row w3 (if k = n then v else LV k) (if k = n then g else LB k) x
    have hk' : (if k = n then some l else s.loose k) = some x := hk
    by_cases c : k = n
    · rw [if_pos c] at hk' ⊢
      rw [if_pos c]
      obtain rfl := Option.some.inj hk'
      exact ⟨by rw [c]; exact hn, hr.chg hc3 gm⟩
    · rw [if_neg c] at hk' ⊢
      rw [if_neg c]
      exact ⟨(h2.lo k x hk').1, (h2.lo k x hk').2.chg hc3 (nm _ _ (h.r5 k x hk') (by omega))⟩
  · have h4 := h.r4 i hi
    rw [if_neg (gr _ (by omega))]; exact h4
  · intro k x hk
    show (if (if k = n then g else LB k) = g then 5 + 2 * n else ρ (if k = n then g else LB k)) = 5 + 2 * k
    have hk' : (if k = n then some l else s.loose k) = some x := hk
    by_cases c : k = n
    · rw [if_pos c, if_pos rfl, c]
    · rw [if_neg c] at hk' ⊢
      have h5 := h.r5 k x hk'
      rw [if_neg (gr _ (by omega))]; exact h5
  · show (if i = g then 5 + 2 * n else ρ i) = 0
    have hg2 : g < i := by have := hr.lt; have := hc3.size; omega
    rw [if_neg (by omega)]
    exact h.rz i (by have := hc.size; have := hc3.size; omega)
set_option maxRecDepth 100000 in
set_option maxHeartbeats 2000000 in
theorem write_in (d : Nat) (ρ : Nat → Nat) (s : DSt) (n : Nat) (ad : Addr) (c : Nat) (l : List Int) (w : World) (h : DiskAt w d ρ s) (h1 : n < s.n) (hl : l.length = 64) (hb : ∀ x ∈ l, 0 ≤ x ∧ x ≤ 255) (hr : Rd w .u8 (some ad) l) (ho : ¬ Own ρ ad.block) (e0 : s.num.work.2 = 0) : Calls Try.prog 63 #[.pointer (some ⟨d, 0, none⟩), .int .i64 n, .slice (some ad) l.length c] w (WritePost w d ρ s n l) := by
  have hsec := sectors_any d ρ s w h
  obtain ⟨sv, mb, cap, SV, SB, LV, LB, h⟩ := h
  have hwk := work_any d _ _ s.num w h.b h.ok
  have hE : s.wrE n l.length = 0 := by unfold DSt.wrE DSt.ioE; rw [if_pos hl, if_pos ⟨by omega, by omega⟩]; exact e0
  have hS : s.wr n l = ({ s with num := s.num.work.1 } : DSt).put n l := by
    unfold DSt.wr DSt.ioE DSt.io
    rw [if_pos hl, if_pos (by rw [if_pos ⟨by omega, by omega⟩]; exact e0), if_pos ⟨by omega, by omega⟩, Int.toNat_natCast]
  have n2 := h.n2
  have H := Lib.hid h
  have HW := Lib.hid (And.intro hwk (And.intro e0 (And.intro hl (And.intro hr (And.intro hE hS)))))
  have hlb : ((l.length : Int) != 64) = false := by rw [bne_eq_false_iff_eq]; omega
  clear hwk e0 h hl hr hE hS
  go_enter Try.func63, Try.ntmps63
  go_wp2_with fail
  refine hsec.mono ?_
  rintro e w1 ⟨rfl, rfl⟩
  clear hsec
  go_wp2_with fail
  refine (HW.out.1).mono ?_
  rintro e w1 ⟨rfl, hb1, hc1⟩
  rw [HW.out.2.1]
  have hp := (H.out).nums _ (DN.work_ok H.out.ok) hb1 hc1
  obtain ⟨k0, k1, k2, k3, k4, k5⟩ := six hb1
  clear k0 k2 k3 k4 k5
  go_wp2_with fail
  have hrd : Rd w1.drew .u8 (some ad) l := ((HW.out.2.2.2.1).chg hc1 (fun _ a e x => ho (by
    obtain rfl := Option.some.inj e
    show ρ ad.block ≠ 0
    rw [show ad.block = d from x, H.out.r1]; decide))).chg ((Chg.refl NoB w1).drew) (fun _ _ _ x => x)
  have hcl := clone_some ad l c w1.drew hrd
  have hup : ∀ w2 v, Chg NoB w1.drew w2 → ∃ w3, (Instr.mapUpdate 67 (.map (some mb)) (.int .i64 n) v).run Try.prog w2 = .ok () w3 ∧ MapAt w3 mb (updM (looseM { s with num := s.num.work.1 } LV) n v) ∧ Chg (· = mb) w2 w3 :=
    fun w2 v hC => run_update (P := Try.prog) 67 3 38 Try.underlying67 Try.underlying3 (hp.mp.chg (((Chg.refl NoB w1).drew).trans hC (fun _ _ x => x)) (fun x => x)) n v
  have HU := Lib.hid hup
  have hdm : ¬ d = mb := fun x => by have h3 := hp.r3; rw [← x, hp.r1] at h3; cases h3
  have HH := Lib.hid (And.intro hp hc1)
  clear hp hc1 hb1 hrd hup
  go_region_held3 (fun w' => w'.cell? ⟨d, 1, none⟩ = some (.map (some mb))) (first | go_keep | exact hc3.cell (by assumption) hdm | exact hC2.cell (by assumption) (fun x => x))
    (first | (go_at_call 61; ((with_reducible refine hcl.mono ?_); rintro e w2 ⟨v, rfl, hown, hC2⟩; obtain ⟨w3, hmu, hm3, hc3⟩ := HU.out w2 v hC2)))
  obtain ⟨g, g1, g2⟩ := row_of_own hown HW.out.2.2.1 hb
  have post : WritePost w d ρ s n l (.returned (.int .i64 0)) w3 := by
    have hp2 := HH.out.1.put ((((Chg.refl NoB w1).drew).trans hC2 (fun _ _ x => x))) n g l v h1 g1 g2 hm3 hc3
    refine ⟨fun i => if i = g then 5 + 2 * n else ρ i, by rw [HW.out.2.2.2.2.1], ?_, ?_, ?_⟩
    · rw [HW.out.2.2.2.2.2]; exact ⟨_, _, _, _, _, _, _, hp2⟩
    · refine Chg.trans (HH.out.2.mono (S' := Own ρ) (fun i _ hh => by rw [show i = d from hh]; show ρ d ≠ 0; rw [H.out.r1]; decide)) ?_ (fun i _ hh => hh)
      refine Chg.trans ((((Chg.refl (Own ρ) w1).drew).trans hC2 (fun _ _ x => x.elim))) (hc3.mono (S' := Own ρ) (fun i _ hh => by rw [show i = mb from hh]; show ρ mb ≠ 0; rw [H.out.r3]; decide)) (fun i _ hh => hh)
    · intro i hi
      by_cases e : i = g
      · right
        have := HH.out.2.size
        have e2 : w1.drew.heap.size = w1.heap.size := rfl
        omega
      · left
        have hi' : (if i = g then 5 + 2 * n else ρ i) ≠ 0 := hi
        rwa [if_neg e] at hi'
  clear hown hm3 hc3 hC2 hmu g1 g2 HH HU HW H
  go_wp2_with fail
  go_ret
  exact post
set_option maxHeartbeats 2000000 in
theorem write_err (d : Nat) (ρ : Nat → Nat) (s : DSt) (n : Nat) (A : Option Addr) (c : Nat) (l : List Int) (w : World) (h : DiskAt w d ρ s) (h1 : n < s.n) (hl : l.length = 64) (e0 : s.num.work.2 ≠ 0) : Calls Try.prog 63 #[.pointer (some ⟨d, 0, none⟩), .int .i64 n, .slice A l.length c] w (WritePost w d ρ s n l) := by
  have hsec := sectors_any d ρ s w h
  obtain ⟨sv, mb, cap, SV, SB, LV, LB, h⟩ := h
  have hwk := work_any d _ _ s.num w h.b h.ok
  have hI : s.ioE n = s.num.work.2 := if_pos ⟨by omega, by omega⟩
  have hE : s.wrE n l.length = s.num.work.2 := by unfold DSt.wrE; rw [if_pos hl, hI]
  have hS : s.wr n l = { s with num := s.num.work.1 } := by
    unfold DSt.wr DSt.io
    rw [if_pos hl, hI, if_neg e0, if_pos ⟨by omega, by omega⟩]
  have post : ∀ w1, DB w1 d (.slice (some ⟨sv, 0, none⟩) s.n cap) (.map (some mb)) s.num.work.1 → Chg (· = d) w w1 → WritePost w d ρ s n l (.returned (.int .i64 s.num.work.2)) w1 := by
    intro w1 hb hc
    refine ⟨ρ, by rw [hE], ?_, hc.mono (fun i _ hh => by rw [show i = d from hh]; show ρ d ≠ 0; rw [h.r1]; decide), fun i hi => .inl hi⟩
    rw [hS]; exact ⟨_, _, _, _, _, _, _, h.nums _ (DN.work_ok h.ok) hb hc⟩
  have hne : (s.num.work.2 != 0) = true := by rw [bne_iff_ne]; exact e0
  have hlb : ((l.length : Int) != 64) = false := by rw [bne_eq_false_iff_eq]; omega
  have n2 := h.n2
  have PO := Lib.hid post
  have HW := Lib.hid hwk
  clear post hE hS e0 h hwk hl hI
  go_enter Try.func63, Try.ntmps63
  go_wp2_with fail
  refine hsec.mono ?_
  rintro e w1 ⟨rfl, rfl⟩
  clear hsec
  go_wp2_with fail
  refine (HW.out).mono ?_
  rintro e w1 ⟨rfl, hb, hc⟩
  have P := PO.out w1 hb hc
  clear PO hb hc HW
  generalize s.num.work.2 = E at *
  go_wp2_with fail
  go_ret
  exact P
theorem write_bad (P : Option Addr) (n : Int) (V : Value) (w : World) (h : n < 0 ∨ P = none) : Calls Try.prog 63 #[.pointer P, .int .i64 n, V] w fun e w' => e = .returned (.int .i64 1) ∧ w = w' := by
  by_cases c : n < 0
  · clear h
    go_enter Try.func63, Try.ntmps63
    go_wp2_with fail
    go_ret
    exact ⟨rfl, rfl⟩
  · obtain rfl : P = none := h.resolve_left c
    have c' : 0 ≤ n := by omega
    clear h c
    go_enter Try.func63, Try.ntmps63
    go_wp2_with fail
    refine (sectors_nil _).mono ?_
    rintro e w1 ⟨rfl, rfl⟩
    go_wp2_with fail
    go_ret
    exact ⟨rfl, rfl⟩
theorem write_big (d : Nat) (ρ : Nat → Nat) (s : DSt) (n : Int) (A : Option Addr) (L c : Nat) (w : World) (h : DiskAt w d ρ s) (h0 : 0 ≤ n) (h1 : s.n ≤ n ∨ L ≠ 64) : Calls Try.prog 63 #[.pointer (some ⟨d, 0, none⟩), .int .i64 n, .slice A L c] w fun e w' => e = .returned (.int .i64 1) ∧ w = w' := by
  by_cases q : (s.n : Int) ≤ n
  · clear h1
    go_enter Try.func63, Try.ntmps63
    go_wp2_with fail
    refine (sectors_any d ρ s _ h).mono ?_
    rintro e w1 ⟨rfl, rfl⟩
    clear h
    go_wp2_with fail
    go_ret
    exact ⟨rfl, rfl⟩
  · have q' : n < s.n := by omega
    have hlb : ((L : Int) != 64) = true := by rw [bne_iff_ne]; have := h1.resolve_left q; omega
    clear q h1
    go_enter Try.func63, Try.ntmps63
    go_wp2_with fail
    refine (sectors_any d ρ s _ h).mono ?_
    rintro e w1 ⟨rfl, rfl⟩
    clear h
    go_wp2_with fail
    go_ret
    exact ⟨rfl, rfl⟩
theorem write_any (d : Nat) (ρ : Nat → Nat) (s : DSt) (n : Int) (A : Option Addr) (c : Nat) (l : List Int) (w : World) (h : DiskAt w d ρ s) (hb : ∀ x ∈ l, 0 ≤ x ∧ x ≤ 255) (hr : Rd w .u8 A l) (ho : 0 < l.length → Off A (Own ρ)) :
    Calls Try.prog 63 #[.pointer (some ⟨d, 0, none⟩), .int .i64 n, .slice A l.length c] w (WritePost w d ρ s n l) := by
  have bad : (n < 0 ∨ (s.n : Int) ≤ n ∨ l.length ≠ 64) → WritePost w d ρ s n l (.returned (.int .i64 1)) w := by
    intro hh
    have hE : s.wrE n l.length = 1 := by
      unfold DSt.wrE DSt.ioE
      by_cases q : l.length = 64
      · rw [if_pos q, if_neg (by omega)]
      · rw [if_neg q]
    have hS : s.wr n l = s := by
      unfold DSt.wr DSt.ioE DSt.io
      by_cases q : l.length = 64
      · have hn : ¬ (0 ≤ n ∧ n < (s.n : Int)) := by omega
        rw [if_pos q, if_neg hn, if_neg hn, if_neg (by decide)]
      · rw [if_neg q]
    exact ⟨ρ, by rw [hE], by rw [hS]; exact h, Chg.refl _ _, fun i hi => .inl hi⟩
  by_cases c0 : n < 0
  · refine (write_bad _ n _ w (.inl c0)).mono ?_
    rintro e w1 ⟨rfl, rfl⟩
    exact bad (.inl c0)
  by_cases c1 : (s.n : Int) ≤ n ∨ l.length ≠ 64
  · refine (write_big d ρ s n A l.length c w h (by omega) c1).mono ?_
    rintro e w1 ⟨rfl, rfl⟩
    exact bad (.inr c1)
  obtain ⟨k, rfl⟩ := Int.eq_ofNat_of_zero_le (show 0 ≤ n by omega)
  have hk : k < s.n := by omega
  have hl : l.length = 64 := by omega
  by_cases e0 : s.num.work.2 = 0
  · obtain ⟨ad, rfl, _⟩ := hr.at_ 0 (by omega)
    exact write_in d ρ s k ad c l w h hk hl hb hr (ho (by omega) ad rfl) e0
  · exact write_err d ρ s k A c l w h hk hl e0
end Go.Proofs.YtolojkfpokmdkaaRR.Disk

-- XDiskD
namespace Go.Proofs.YtolojkfpokmdkaaRR.Disk
open Go.RowKit Go.Proofs.YtolojkfpokmdkaaRR.Hp Go.Proofs.YtolojkfpokmdkaaRR.By
set_option linter.unusedVariables false
set_option linter.unusedSimpArgs false
def DSt.new (n : Nat) : DSt := ⟨n, fun _ => List.replicate 64 0, fun _ => none, ⟨0, 0, -1, false⟩⟩
def DNewPost (n : Nat) (w : World) (e : Ending) (w' : World) : Prop :=
  ∃ d ρ, e = .returned (.pointer (some ⟨d, 0, none⟩)) ∧ DiskAt w' d ρ (DSt.new n) ∧ Chg NoB w w' ∧ ∀ i, ρ i ≠ 0 → w.heap.size ≤ i
theorem num0_ok : DN.ok ⟨0, 0, -1, false⟩ := ⟨⟨by decide, by decide⟩, ⟨by decide, by decide⟩, ⟨by decide, by decide⟩⟩
theorem infoS : (Try.prog.info? 38).map (fun i => (i.zero, i.size, i.bytes)) = some (some (.slice none 0 0), 1, 24) := by kernel_rfl
/-- what has been made behind k rounds: the row of slices, each over its own block -/
structure Made (w0 w : World) (d mb : Nat) (k : Nat) (v : Value) (SV : Nat → Value) (SB : Nat → Nat) : Prop where
  b : DB w d v (.map (some mb)) ⟨0, 0, -1, false⟩
  own : w.ownsRow w0.heap.size 38 1 v k ((List.range k).map SV)
  rows : ∀ i, i < k → Row w (SV i) (SB i) (List.replicate 64 0)
  mp : MapAt w mb (fun _ => none)
  inj : ∀ i j, i < k → j < k → SB i = SB j → i = j
  nd : ∀ i, i < k → SB i ≠ d ∧ SB i ≠ mb ∧ w0.heap.size ≤ SB i
  dm : d ≠ mb
  nv : ∀ g, v.ownBlock = some g → g ≠ d ∧ g ≠ mb ∧ ∀ i, i < k → SB i ≠ g
  ch : Chg NoB w0 w
  ld : w0.heap.size ≤ d
  lm : w0.heap.size ≤ mb
theorem Made.disk {w0 w : World} {d mb k : Nat} {v : Value} {SV : Nat → Value} {SB : Nat → Nat} (h : Made w0 w d mb k v SV SB) (h1 : 1 ≤ k) (h2 : k ≤ 4096) : ∃ ρ, DiskAt w d ρ (DSt.new k) ∧ ∀ i, ρ i ≠ 0 → w0.heap.size ≤ i := by
  rcases h.own.2 with ⟨_, e⟩ | ⟨g, cap, cur, hv, hbg, hh, hc1, hc2, hc3, ht⟩
  · have e' : k = 0 := by simpa using e
    omega
  · have hnv := h.nv g (by rw [hv]; rfl)
    let ρ : Nat → Nat := fun i => if i = d then 1 else if i = g then 2 else if i = mb then 3 else if hx : ∃ j, j < k ∧ SB j = i then 4 + 2 * hx.choose else 0
    have rs : ∀ i, i < k → ρ (SB i) = 4 + 2 * i := by
      intro i hi
      have hx : ∃ j, j < k ∧ SB j = SB i := ⟨i, hi, rfl⟩
      show (if SB i = d then 1 else if SB i = g then 2 else if SB i = mb then 3 else if hx : ∃ j, j < k ∧ SB j = SB i then 4 + 2 * hx.choose else 0) = _
      rw [if_neg (h.nd i hi).1, if_neg (hnv.2.2 i hi), if_neg (h.nd i hi).2.1, dif_pos hx]
      have := h.inj _ _ hx.choose_spec.1 hi hx.choose_spec.2
      omega
    have big : ∀ i, ρ i ≠ 0 → w0.heap.size ≤ i ∧ i < w.heap.size := by
      intro i hi
      have hi' : (if i = d then 1 else if i = g then 2 else if i = mb then 3 else if hx : ∃ j, j < k ∧ SB j = i then 4 + 2 * hx.choose else 0) ≠ 0 := hi
      by_cases e1 : i = d
      · rw [e1]; exact ⟨h.ld, blt h.b⟩
      by_cases e2 : i = g
      · rw [e2]; exact ⟨hbg, blt hh⟩
      by_cases e3 : i = mb
      · rw [e3]; exact ⟨h.lm, h.mp.lt⟩
      rw [if_neg e1, if_neg e2, if_neg e3] at hi'
      by_cases hx : ∃ j, j < k ∧ SB j = i
      · obtain ⟨j, hj, rfl⟩ := hx
        exact ⟨(h.nd j hj).2.2, (h.rows j hj).lt⟩
      · rw [dif_neg hx] at hi'; exact absurd rfl hi'
    refine ⟨ρ, ⟨g, mb, cap, SV, SB, fun _ => .slice none 0 0, fun _ => 0, ?_⟩, fun i hi => (big i hi).1⟩
    refine ⟨?_, ?_, h1, h2, hc1, ⟨cur, hh, fun i hi => ?_⟩, h.rows, ?_, (fun _ _ x => by cases x), ?_, ?_, ?_, rs, (fun _ _ x => by cases x), fun i hi => ?_⟩
    · have := h.b; rw [hv] at this; exact this
    · exact num0_ok
    · have hi' : i < k := hi
      have e : (cur.toList.take (k * 1))[i]? = ((List.range k).map SV)[i]? := by rw [ht]
      rw [List.getElem?_take, if_pos (by omega), Array.getElem?_toList] at e
      rw [e]; simp [hi']
    · have : looseM (DSt.new k) (fun _ => .slice none 0 0) = fun _ => none := by
        funext i; unfold looseM DSt.new; simp
      rw [this]; exact h.mp
    · exact if_pos rfl
    · show (if g = d then 1 else if g = g then 2 else _) = 2
      rw [if_neg hnv.1, if_pos rfl]
    · show (if mb = d then 1 else if mb = g then 2 else if mb = mb then 3 else _) = 3
      rw [if_neg (fun x => h.dm x.symm), if_neg (fun x => hnv.2.1 x.symm), if_pos rfl]
    · by_cases c : ρ i = 0
      · exact c
      · have := (big i c).2; omega
def NRel (w0 : World) (d mb n : Nat) (i : Value) (wr : World) : Prop := ∃ k v SV SB, k ≤ n ∧ i = .int .i64 (k : Nat) ∧ Made w0 wr d mb k v SV SB
theorem own_lt {w : World} {base n : Nat} {e : TypeId} {v : Value} {xs : List Value} (h : w.ownsRow base e 1 v n xs) (g : Nat) (hg : v.ownBlock = some g) : g < w.heap.size := by
  rcases h.2 with ⟨rfl, _⟩ | ⟨g', cap, cur, rfl, hb, hh, _⟩
  · simp [Value.ownBlock] at hg
  · have : g' = g := by simpa [Value.ownBlock] using hg
    subst this; exact blt hh
theorem own_chg {S : Nat → Prop} {w w' : World} {base n : Nat} {e : TypeId} {v : Value} {xs : List Value} (h : w.ownsRow base e 1 v n xs) (hc : Chg S w w') (hn : ∀ g, v.ownBlock = some g → ¬ S g) : w'.ownsRow base e 1 v n xs := by
  refine ⟨h.1, ?_⟩
  rcases h.2 with h2 | ⟨g, cap, cur, hv, hb, hh, r⟩
  · exact .inl h2
  · exact .inr ⟨g, cap, cur, hv, hb, hc.blk hh (hn g (by rw [hv]; rfl)), r⟩
theorem zero_row (n j : Nat) (hj : j < n) : (Array.replicate n (Value.int .u8 0))[j]? = some (.int .u8 ((List.replicate n 0).getD j 0)) := by
  rw [Array.getElem?_replicate, if_pos hj, List.getD_eq_getElem?_getD, List.getElem?_replicate, if_pos hj]; rfl
/-- one sector more -/
theorem Made.next {w0 w w1 w2 w3 : World} {d mb k : Nat} {v : Value} {SV : Nat → Value} {SB : Nat → Nat} (h : Made w0 w d mb k v SV SB)
    (hw1 : w1 = ((w.alloc (.cells (Array.replicate 64 (.int .u8 0)) 5)).alloc (.cells #[.slice (some ⟨w.heap.size, 0, none⟩) 64 64] 38)).drew)
    (g cap : Nat) (hown : w2.ownsRow w0.heap.size 38 1 (.slice (some ⟨g, 0, none⟩) (k + 1) cap) (k + 1) ((List.range k).map SV ++ [.slice (some ⟨w.heap.size, 0, none⟩) 64 64])) (hgr : w1.grownBy w2 v.ownBlock) (hg : v.ownBlock = some g ∨ g = w.heap.size + 2)
    (hw3 : w3 = w2.setCell ⟨d, 0, none⟩ (.slice (some ⟨g, 0, none⟩) (k + 1) cap)) :
    Made w0 w3 d mb (k + 1) (.slice (some ⟨g, 0, none⟩) (k + 1) cap) (fun i => if i = k then .slice (some ⟨w.heap.size, 0, none⟩) 64 64 else SV i) (fun i => if i = k then w.heap.size else SB i) := by
  have hz := h.ch.size
  have ld : d < w.heap.size := blt h.b
  have lm := h.mp.lt
  have lb : ∀ i, i < k → SB i < w.heap.size := fun i hi => (h.rows i hi).lt
  have c1 : Chg NoB w w1 := by rw [hw1]; exact (((Chg.refl NoB w).alloc _).alloc _).drew
  have c2 : Chg (fun i => v.ownBlock = some i) w1 w2 := Chg.of_grownBy hgr (fun j hj => .inl hj)
  have c3 : Chg (· = d) w2 w3 := by rw [hw3]; exact chg1 _ _ _ _
  have no : ∀ i, v.ownBlock = some i → i ≠ d ∧ i ≠ mb ∧ ∀ j, j < k → SB j ≠ i := h.nv
  have s1 : w1.heap.size = w.heap.size + 2 := by rw [hw1]; simp [World.drew]
  have new : Blk w1 w.heap.size (Array.replicate 64 (.int .u8 0)) 5 := by rw [hw1]; exact balloc (bnew w _) _
  have new2 : Blk w2 w.heap.size (Array.replicate 64 (.int .u8 0)) 5 := c2.blk new (fun x => by
    have := own_lt h.own _ x; omega)
  have gd : g ≠ d := by
    rcases hg with hg | hg
    · exact (no g hg).1
    · omega
  have gm : g ≠ mb := by
    rcases hg with hg | hg
    · exact (no g hg).2.1
    · omega
  have gs : ∀ i, i < k → SB i ≠ g := by
    intro i hi
    rcases hg with hg | hg
    · exact (no g hg).2.2 i hi
    · have := lb i hi; omega
  have gw : g ≠ w.heap.size := by
    rcases hg with hg | hg
    · have := own_lt h.own g hg; omega
    · omega
  have db2 : DB w2 d v (.map (some mb)) ⟨0, 0, -1, false⟩ := c2.blk (c1.blk h.b (fun x => x)) (fun x => (no d x).1 rfl)
  refine ⟨?_, ?_, ?_, ?_, ?_, ?_, h.dm, ?_, ?_, h.ld, h.lm⟩
  · rw [hw3]; exact bset db2 0 _
  · have e : (List.range (k + 1)).map (fun i => if i = k then Value.slice (some ⟨w.heap.size, 0, none⟩) 64 64 else SV i) = (List.range k).map SV ++ [.slice (some ⟨w.heap.size, 0, none⟩) 64 64] := by
      rw [List.range_succ, List.map_append]
      congr 1
      · apply List.map_congr_left
        intro i hi
        have : i < k := by simpa using hi
        rw [if_neg (by omega)]
      · simp
    rw [e, hw3]
    have c3' := c3
    rw [hw3] at c3'
    exact own_chg hown c3' (fun g' hg' => by
      have : g = g' := by simpa [Value.ownBlock] using hg'
      subst this; exact gd)
  · intro i hi
    show Row w3 (if i = k then _ else SV i) (if i = k then w.heap.size else SB i) _
    by_cases e : i = k
    · rw [if_pos e, if_pos e]
      refine Row.chg ?_ c3 (by show ¬ w.heap.size = d; omega)
      exact ⟨List.length_replicate, fun x hx => by rw [List.eq_of_mem_replicate hx]; decide, 64, _, rfl, by omega, new2, by rw [Array.size_replicate]; omega, fun j hj => zero_row 64 j hj⟩
    · rw [if_neg e, if_neg e]
      have hik : i < k := by omega
      exact (((h.rows i hik).chg c1 (fun x => x)).chg c2 (fun x => (no _ x).2.2 i hik rfl)).chg c3 (h.nd i hik).1
  · exact ((h.mp.chg c1 (fun x => x)).chg c2 (fun x => (no _ x).2.1 rfl)).chg c3 (fun x => h.dm x.symm)
  · intro i j hi hj
    show (if i = k then w.heap.size else SB i) = (if j = k then w.heap.size else SB j) → i = j
    by_cases e : i = k
    · by_cases f : j = k
      · intro _; omega
      · rw [if_pos e, if_neg f]
        intro x; have := lb j (by omega); omega
    · by_cases f : j = k
      · rw [if_neg e, if_pos f]
        intro x; have := lb i (by omega); omega
      · rw [if_neg e, if_neg f]
        exact h.inj i j (by omega) (by omega)
  · intro i hi
    show (if i = k then w.heap.size else SB i) ≠ d ∧ (if i = k then w.heap.size else SB i) ≠ mb ∧ _ ≤ (if i = k then w.heap.size else SB i)
    by_cases e : i = k
    · rw [if_pos e]; exact ⟨by omega, by omega, hz⟩
    · rw [if_neg e]; exact h.nd i (by omega)
  · intro g' hg'
    have : g = g' := by simpa [Value.ownBlock] using hg'
    subst this
    refine ⟨gd, gm, fun i hi => ?_⟩
    show (if i = k then w.heap.size else SB i) ≠ g
    by_cases e : i = k
    · rw [if_pos e]; exact fun x => gw x.symm
    · rw [if_neg e]; exact gs i (by omega)
  · have c2' : Chg (fun i => w0.heap.size ≤ i) w1 w2 := c2.mono (fun i _ hh => (h.own.lt i hh).1)
    have c3' : Chg (fun i => w0.heap.size ≤ i) w2 w3 := c3.mono (fun i _ hh => by rw [show i = d from hh]; exact h.ld)
    exact ((h.ch.trans c1 (fun _ _ x => x)).trans c2' (fun i hi hh => by have hh' : w0.heap.size ≤ i := hh; omega)).trans c3' (fun i hi hh => by have hh' : w0.heap.size ≤ i := hh; omega)
set_option maxRecDepth 100000 in
set_option maxHeartbeats 2000000 in
theorem dnew_any (n : Nat) (h1 : 1 ≤ n) (h2 : n ≤ 4096) (w : World) : Calls Try.prog 13 #[.int .i64 n] w (DNewPost n w) := by
  have hmm := @run_makeMap Try.prog
  go_enter Try.func13, Try.ntmps13
  go_wp2_with fail
  have hM : Made w ((w.alloc (.map #[] 0)).alloc (.cells #[.slice none 0 0, .map (some w.heap.size), .int .i64 0, .int .i64 0, .int .i64 (-1), .bool false] 69)) (w.heap.size + 1) w.heap.size 0 (.slice none 0 0) (fun _ => .slice none 0 0) (fun _ => 0) := by
    refine ⟨bnew' (by simp) _, World.ownsRow_nil _ _ _ _, fun i hi => by omega, ?_, fun i j hi => by omega, fun i hi => by omega, by omega, fun g hg => by simp [Value.ownBlock] at hg, ((Chg.refl NoB w).alloc _).alloc _, by omega, Nat.le_refl _⟩
    exact (MapAt.new w).chg ((Chg.refl NoB _).alloc _) (fun x => x)
  generalize (w.alloc (.map #[] 0)).alloc (.cells #[.slice none 0 0, .map (some w.heap.size), .int .i64 0, .int .i64 0, .int .i64 (-1), .bool false] 69) = W at *
  generalize hd : w.heap.size + 1 = d at *
  generalize hmb : w.heap.size = mb at *
  clear hmm hd hmb
  have hmk := fun (w : World) => run_make1 (P := Try.prog) 38 5 (.int .u8 0) 1 Try.underlying38 info8 rfl 64 (by decide) (by decide) (by decide) w
  obtain ⟨i0, hi0, hz0, hz1, hz2⟩ := info_parts infoS
  go_loopw [10] (fun i wr => NRel w d mb n i wr) (fun i wr => (n - intOf i).toNat)
  case atStart => exact ⟨0, _, _, _, by omega, rfl, hM⟩
  case round =>
    clear hM
    obtain ⟨k, v, SV, SB, hk, rfl, hM⟩ := hrel
    by_cases hlt : k < n
    · obtain ⟨k0, k1, k2, k3, k4, k5⟩ := six hM.b
      clear k1 k2 k3 k4 k5
      have hf := bfroz hM.b 0
      have hdl : d < wr.heap.size := blt hM.b
      have hown := hM.own
      have nx : ∀ v2 SV2 SB2 w', Made w w' d mb (k + 1) v2 SV2 SB2 → NRel w d mb n (.int .i64 ((k : Int) + 1)) w' := fun v2 SV2 SB2 w' h => ⟨k + 1, v2, SV2, SB2, by omega, rfl, h⟩
      have hne : v.ownBlock ≠ some d := fun x => (hM.nv d x).1 rfl
      obtain ⟨W1, hW1⟩ : ∃ W1, W1 = ((wr.alloc (.cells (Array.replicate 64 (.int .u8 0)) 5)).alloc (.cells #[.slice (some ⟨wr.heap.size, 0, none⟩) 64 64] 38)).drew := ⟨_, rfl⟩
      have hnews : ∀ j u, [Value.slice (some ⟨wr.heap.size, 0, none⟩) 64 64][j]? = some u → (((wr.alloc (.cells (Array.replicate 64 (.int .u8 0)) 5)).alloc (.cells #[.slice (some ⟨wr.heap.size, 0, none⟩) 64 64] 38)).drew).cell? ((⟨wr.heap.size + 1, 0, none⟩ : Addr).add j) = some u := by
        intro j u hj
        have hb : Blk ((wr.alloc (.cells (Array.replicate 64 (.int .u8 0)) 5)).alloc (.cells #[.slice (some ⟨wr.heap.size, 0, none⟩) 64 64] 38)) (wr.heap.size + 1) #[.slice (some ⟨wr.heap.size, 0, none⟩) 64 64] 38 := bnew' (by simp) _
        rw [add0]
        have hj0 : j = 0 := by have := (List.getElem?_eq_some_iff.1 hj).1; simpa using this
        subst hj0
        exact (bcell hb 0).trans hj
      have hbase : w.heap.size ≤ (((wr.alloc (.cells (Array.replicate 64 (.int .u8 0)) 5)).alloc (.cells #[.slice (some ⟨wr.heap.size, 0, none⟩) 64 64] 38)).drew).heap.size := by
        have := hM.ch.size
        simp [World.drew]; omega
      have hst : ∀ w2, W1.grownBy w2 v.ownBlock → DB w2 d v (.map (some mb)) ⟨0, 0, -1, false⟩ := by
        intro w2 hg
        have c1 : Chg NoB wr W1 := by rw [hW1]; exact (((Chg.refl NoB wr).alloc _).alloc _).drew
        exact (Chg.of_grownBy (S := fun i => v.ownBlock = some i) hg (fun j hj => .inl hj)).blk (c1.blk hM.b (fun x => x)) hne
      rw [hW1] at hst
      have HST := Lib.hid hst
      have NX := Lib.hid (And.intro nx (And.intro hM hne))
      clear nx hM hne hst hW1
      go_wp2_with fail
      go_region_law (first | (refine step_append_lies _ (by rfl) _ _ _ (by rfl) w.heap.size 38 i0 _ 1 24 Try.underlying48 hi0 hz0 hz1 hz2 rfl (by omega) v k _ (by rfl) (((hown.alloc _).alloc _).drew) ⟨wr.heap.size + 1, 0, none⟩ 1 1 [.slice (some ⟨wr.heap.size, 0, none⟩) 64 64] (by rfl) (by rfl) hnews (by simp [Value.oneCell']) (by omega) (by unfold maxLen; omega) (by omega) hbase (wr.heap.size + 2) (by simp [World.drew]) ?_; intro g cap w2 hown2 hgr hg hgl; have hD := HST.out w2 hgr; have hcd := (six hD).1; have hfd := bfroz hD 0; clear hD hgl))
      all_goals
        have N := NX.out.2.1.next rfl g cap hown2 hgr hg rfl
        have NN := NX.out.1 _ _ _ _ N
        clear N hown2 hgr hg NX HST hown hnews hbase
        go_wp2_with fail
        exact ⟨NN, by simp [intOf]; omega⟩
    · obtain rfl : k = n := by omega
      obtain ⟨ρ, hp⟩ := hM.disk h1 h2
      have post : DNewPost k w (.returned (.pointer (some ⟨d, 0, none⟩))) wr := ⟨d, ρ, rfl, hp.1, hM.ch, hp.2⟩
      clear hM hp
      go_wp2_with fail
      go_ret
      exact post
def DSt.failing (s : DSt) (a b : Int) : DSt := { s with num := { s.num with first := if a < 0 then 0 else a, fail := if b < 0 then 0 else b } }
def FailPost (w : World) (d : Nat) (ρ : Nat → Nat) (s : DSt) (a b : Int) (e : Ending) (w' : World) : Prop := e = .returned (.tuple #[]) ∧ DiskAt w' d ρ (s.failing a b) ∧ Chg (Own ρ) w w'
end Go.Proofs.YtolojkfpokmdkaaRR.Disk

-- XDiskE
namespace Go.Proofs.YtolojkfpokmdkaaRR.Disk
open Go.RowKit Go.Proofs.YtolojkfpokmdkaaRR.Hp Go.Proofs.YtolojkfpokmdkaaRR.By
set_option linter.unusedVariables false
set_option linter.unusedSimpArgs false
structure DL (w0 w : World) (d : Nat) (ρ : Nat → Nat) (s : DSt) : Prop where
  at_ : DiskAt w d ρ s
  ch : Chg NoB w0 w
  nw : ∀ i, ρ i ≠ 0 → w0.heap.size ≤ i
theorem DL.keep {w0 w w' : World} {d : Nat} {ρ : Nat → Nat} {s : DSt} (h : DL w0 w d ρ s) (hc : Chg NoB w w') : DL w0 w' d ρ s := ⟨h.at_.keep hc, h.ch.trans hc (fun _ _ x => x), h.nw⟩
theorem DL.go {w0 w w' : World} {d : Nat} {ρ ρ' : Nat → Nat} {s s' : DSt} (h : DL w0 w d ρ s) (h1 : DiskAt w' d ρ' s') (hc : Chg (Own ρ) w w') (hg : ∀ i, ρ' i ≠ 0 → ρ i ≠ 0 ∨ w.heap.size ≤ i) : DL w0 w' d ρ' s' :=
  ⟨h1, h.ch.trans hc (fun i hi hh => by have := h.nw i hh; omega), fun i hi => (hg i hi).elim (h.nw i) (fun x => Nat.le_trans h.ch.size x)⟩
/-- a buffer beside the disk changes -/
theorem DL.side {w0 w w' : World} {d : Nat} {ρ : Nat → Nat} {s : DSt} (h : DL w0 w d ρ s) {g : Nat} (hc : Chg (· = g) w w') (hg : ρ g = 0) (hw : w0.heap.size ≤ g) : DL w0 w' d ρ s :=
  ⟨h.at_.chg hc (fun i hi x => hi (by rw [show i = g from x]; exact hg)), h.ch.trans hc (fun i hi hh => by have := (show i = g from hh); omega), h.nw⟩
/-- a block of bytes -/
def Buf (w : World) (g : Nat) (l : List Int) : Prop := Blk w g (l.map (Value.int .u8)).toArray 5
theorem Buf.chg {S : Nat → Prop} {w w' : World} {g : Nat} {l : List Int} (h : Buf w g l) (hc : Chg S w w') (h1 : ¬ S g) : Buf w' g l := hc.blk (show Blk w g _ _ from h) h1
theorem Buf.lt {w : World} {g : Nat} {l : List Int} (h : Buf w g l) : g < w.heap.size := blt (show Blk w g _ _ from h)
theorem Buf.cell {w : World} {g : Nat} {l : List Int} (h : Buf w g l) (i : Nat) (hi : i < l.length) : w.cell? ⟨g, i, none⟩ = some (.int .u8 (l.getD i 0)) := by
  rw [bcell (show Blk w g _ _ from h)]; simp [hi]
theorem Buf.frz {w : World} {g : Nat} {l : List Int} (h : Buf w g l) (i : Nat) : w.frozen? ⟨g, i, none⟩ = false := bfroz (show Blk w g _ _ from h) i
theorem Buf.set {w : World} {g : Nat} {l : List Int} (h : Buf w g l) (i : Nat) (v : Int) : Buf (w.setCell ⟨g, i, none⟩ (.int .u8 v)) g (l.set i v) := by
  have := bset (show Blk w g _ _ from h) i (.int .u8 v)
  unfold Buf
  rw [show ((l.set i v).map (Value.int .u8)).toArray = (l.map (Value.int .u8)).toArray.setIfInBounds i (.int .u8 v) from by simp [List.map_set]]
  exact this
theorem Buf.rd {w : World} {g : Nat} {l : List Int} (h : Buf w g l) (hl : l.length ≤ 140737488351232) : Rd w .u8 (some ⟨g, 0, none⟩) l :=
  ⟨hl, fun _ => ⟨_, rfl, fun j hj => by rw [add0]; exact h.cell j hj⟩⟩
theorem Buf.new (w : World) (n g : Nat) (hg : g = w.heap.size) : Buf (w.alloc (.cells (Array.replicate n (.int .u8 0)) 5)) g (List.replicate n 0) := by
  unfold Buf
  rw [show ((List.replicate n (0 : Int)).map (Value.int .u8)).toArray = Array.replicate n (.int .u8 0) from by simp]
  exact bnew' hg _
section
variable {w0 w : World} {d : Nat} {ρ : Nat → Nat} {s : DSt}
/-- what Read leaves -/
def RdAns (w0 w : World) (d : Nat) (ρ : Nat → Nat) (s : DSt) (n : Int) (e : Ending) (w' : World) : Prop :=
  ∃ v, e = .returned (.tuple #[v, .int .i64 (s.ioE n)]) ∧ DL w0 w' d ρ (s.io n) ∧ Chg (Own ρ) w w' ∧ (s.ioE n = 0 → ∃ g, Row w' v g (s.get n) ∧ w.heap.size ≤ g) ∧ (s.ioE n ≠ 0 → v = .slice none 0 0)
theorem DL.read {n : Int} {e : Ending} {w' : World} (h : DL w0 w d ρ s) (hp : ReadPost w d ρ s n e w') : RdAns w0 w d ρ s n e w' := by
  obtain ⟨v, he, h1, h2, h3, h4⟩ := hp
  exact ⟨v, he, h.go h1 h2 (fun i hi => .inl hi), h2, h3, h4⟩
def WrAns (w0 w : World) (d : Nat) (ρ : Nat → Nat) (s : DSt) (n : Int) (l : List Int) (e : Ending) (w' : World) : Prop :=
  e = .returned (.int .i64 (s.wrE n l.length)) ∧ Chg (Own ρ) w w' ∧ ∃ ρ', DL w0 w' d ρ' (s.wr n l) ∧ ∀ i, i < w.heap.size → ρ i = 0 → ρ' i = 0
theorem DL.write {n : Int} {l : List Int} {e : Ending} {w' : World} (h : DL w0 w d ρ s) (hp : WritePost w d ρ s n l e w') : WrAns w0 w d ρ s n l e w' := by
  obtain ⟨ρ', he, h1, h2, h3⟩ := hp
  refine ⟨he, h2, ρ', h.go h1 h2 h3, fun i hi h0 => ?_⟩
  by_cases c : ρ' i = 0
  · exact c
  · rcases h3 i c with x | x
    · exact absurd h0 x
    · omega
theorem l_read (n : Int) (h : DL w0 w d ρ s) : Calls Try.prog 46 #[.pointer (some ⟨d, 0, none⟩), .int .i64 n] w (RdAns w0 w d ρ s n) :=
  (read_any d ρ s n w h.at_).mono fun _ _ hp => h.read hp
theorem l_write (n : Int) (A : Option Addr) (c : Nat) (l : List Int) (h : DL w0 w d ρ s) (hb : ∀ x ∈ l, 0 ≤ x ∧ x ≤ 255) (hr : Rd w .u8 A l) (ho : 0 < l.length → Off A (Own ρ)) :
    Calls Try.prog 63 #[.pointer (some ⟨d, 0, none⟩), .int .i64 n, .slice A l.length c] w (WrAns w0 w d ρ s n l) :=
  (write_any d ρ s n A c l w h.at_ hb hr ho).mono fun _ _ hp => h.write hp
end
def NewAns (n : Nat) (w0 : World) (e : Ending) (w' : World) : Prop := ∃ d ρ, e = .returned (.pointer (some ⟨d, 0, none⟩)) ∧ DL w0 w' d ρ (DSt.new n)
theorem l_new (n : Nat) (h1 : 1 ≤ n) (h2 : n ≤ 4096) (w0 : World) : Calls Try.prog 13 #[.int .i64 n] w0 (NewAns n w0) := by
  refine (dnew_any n h1 h2 w0).mono ?_
  rintro e w1 ⟨d, ρ, rfl, h1, h2, h3⟩
  exact ⟨d, ρ, rfl, h1, h2, h3⟩
theorem ioE_in {s : DSt} {n : Int} (h0 : 0 ≤ n) (h1 : n < s.n) : s.ioE n = s.num.work.2 := if_pos ⟨h0, h1⟩
theorem io_in {s : DSt} {n : Int} (h0 : 0 ≤ n) (h1 : n < s.n) : s.io n = { s with num := s.num.work.1 } := if_pos ⟨h0, h1⟩
/-- nothing is to fail -/
theorem work_calm (n : DN) (h : n = ⟨0, 0, -1, false⟩) : n.work = (n, 0) := by subst h; rfl
theorem new_work (n : Nat) : (DSt.new n).num.work = (⟨0, 0, -1, false⟩, 0) := rfl
end Go.Proofs.YtolojkfpokmdkaaRR.Disk

