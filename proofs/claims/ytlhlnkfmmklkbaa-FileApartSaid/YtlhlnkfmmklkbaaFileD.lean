/- FilePages. -/
import Derived.Test.YtlhlnkfmmklkbaaFileC
import Derived.Test.YtlhlnkfmmklkbaaSame
namespace Go.Proofs.Ytlhlnkfmmklkbaa.File
open Go.RowKit Go.Proofs.Ytlhlnkfmmklkbaa.Hp Go.Proofs.Ytlhlnkfmmklkbaa.By Go.Proofs.Ytlhlnkfmmklkbaa.Disk
set_option linter.unusedVariables false
set_option linter.unusedSimpArgs false
/-- nothing is to fail, on a disk of that size -/
def Pg (s : DSt) : Prop := Calm s ∧ s.n = 192
theorem pg_wr {s : DSt} (h : Pg s) {n : Int} (h0 : 0 ≤ n ∧ n < 192) {l : List Int} (hl : l.length = 64) : s.wrE n l.length = 0 ∧ s.wr n l = s.put n.toNat l ∧ Pg (s.wr n l) := by
  have e := calm_wr h.1 h0.1 (by rw [h.2]; exact h0.2) hl
  exact ⟨calm_wrE h.1 h0.1 (by rw [h.2]; exact h0.2) hl, e, by rw [e]; exact h⟩
theorem pg_not {s : DSt} (h : Pg s) {n : Int} {l : List Int} (hb : ¬ (0 ≤ n ∧ n < 192) ∨ l.length ≠ 64) : s.wrE n l.length = 1 ∧ s.wr n l = s := by
  by_cases hl : l.length = 64
  · have hn : ¬ (0 ≤ n ∧ n < (s.n : Int)) := by rw [h.2]; exact hb.resolve_right (fun x => x hl)
    refine ⟨by unfold DSt.wrE; rw [if_pos hl]; exact ioE_out hn, ?_⟩
    unfold DSt.wr
    rw [if_pos hl, ioE_out hn, if_neg (by decide)]
    exact if_neg hn
  · exact ⟨by unfold DSt.wrE; rw [if_neg hl], by unfold DSt.wr; rw [if_neg hl]⟩
/-- what was written at a place that may be, or not -/
theorem pg_any {s : DSt} (h : Pg s) (b : Bool) {n : Int} {l : List Int} (hy : b = true → (0 ≤ n ∧ n < 192) ∧ l.length = 64) (hn : b = false → ¬ (0 ≤ n ∧ n < 192) ∨ l.length ≠ 64) :
    s.wrE n l.length = (if b then 0 else 1) ∧ Pg (s.wr n l) ∧ (b = true → s.wr n l = s.put n.toNat l) ∧ (b = false → s.wr n l = s) := by
  cases b with
  | true =>
    obtain ⟨h1, h2⟩ := hy rfl
    obtain ⟨a, b, c⟩ := pg_wr h h1 h2
    exact ⟨by rw [a]; rfl, c, (fun _ => b), fun x => by cases x⟩
  | false =>
    obtain ⟨a, b⟩ := pg_not h (hn rfl)
    exact ⟨by rw [a]; rfl, by rw [b]; exact h, (fun x => by cases x), fun _ => b⟩
theorem pg_read {s : DSt} (h : Pg s) {n : Int} (h0 : 0 ≤ n ∧ n < 192) : s.ioE n = 0 ∧ s.io n = s := ⟨calm_ioE h.1 h0.1 (by rw [h.2]; exact h0.2), calm_io h.1 n⟩
/-- a row that was read, beside the disk -/
structure RowBy (w : World) (ρ : Nat → Nat) (v : Value) (l : List Int) : Prop where
  ex : ∃ g, Row w v g l ∧ ρ g = 0
theorem RowBy.keep {w w' : World} {ρ : Nat → Nat} {v : Value} {l : List Int} (h : RowBy w ρ v l) (hc : Chg (Own ρ) w w') : RowBy w' ρ v l := by
  obtain ⟨g, h1, h2⟩ := h.ex
  exact ⟨g, h1.chg hc (fun x => x h2), h2⟩
theorem RowBy.keep0 {w w' : World} {ρ : Nat → Nat} {v : Value} {l : List Int} (h : RowBy w ρ v l) (hc : Chg NoB w w') : RowBy w' ρ v l := h.keep (hc.mono (fun _ _ x => x.elim))
theorem RowBy.role {w : World} {ρ ρ' : Nat → Nat} {v : Value} {l : List Int} (h : RowBy w ρ v l) (hr : ∀ i, i < w.heap.size → ρ i = 0 → ρ' i = 0) : RowBy w ρ' v l := by
  obtain ⟨g, h1, h2⟩ := h.ex
  exact ⟨g, h1, hr g h1.lt h2⟩
theorem RowBy.rd {w : World} {ρ : Nat → Nat} {v : Value} {l : List Int} (h : RowBy w ρ v l) : ∃ g cap, v = .slice (some ⟨g, 0, none⟩) l.length cap ∧ Rd w .u8 (some ⟨g, 0, none⟩) l := by
  obtain ⟨g, h1, _⟩ := h.ex
  obtain ⟨cp, C, hv, _⟩ := h1.2.2
  exact ⟨g, cp, by rw [hv, h1.1], h1.rd⟩
/-- the answer of Read at a place that may be, nothing failing -/
theorem read_pg {w0 w w' : World} {d : Nat} {ρ : Nat → Nat} {s : DSt} {n : Int} {e : Ending} (hD : DL w0 w d ρ s) (hp : ReadPost w d ρ s n e w') (h : Pg s) (h0 : 0 ≤ n ∧ n < 192) :
    ∃ v, e = .returned (.tuple #[v, .int .i64 0]) ∧ DL w0 w' d ρ s ∧ Chg (Own ρ) w w' ∧ RowBy w' ρ v (s.get n) := by
  obtain ⟨v, rfl, h1, hc, h2, _⟩ := hD.read hp
  obtain ⟨e1, e2⟩ := pg_read h h0
  rw [e2] at h1
  obtain ⟨g, g1, g2⟩ := h2 e1
  have hz : ρ g = 0 := by
    obtain ⟨_, _, _, _, _, _, _, hq⟩ := hD.at_
    exact hq.rz g g2
  exact ⟨v, by rw [e1], h1, hc, g, g1, hz⟩
def CutB (tb : Bool) (w2 : World) (v : Value) (wc : World) : Prop := v = .bool tb ∧ wc = w2
set_option maxRecDepth 100000 in
set_option maxHeartbeats 4000000 in
theorem filePages (f p k : Int) (A : Option Addr) (c : Nat) (l : List Int) (w : World) (hl : Rd w .u8 A l) (hb : ∀ x ∈ l, 0 ≤ x ∧ x ≤ 255) : Calls Try.prog 3 #[.int .i64 f, .int .i64 p, .int .i64 k, .slice A l.length c] w (True1 w) := by
  have hlen := hl.1
  by_cases big : 200 < l.length
  · clear hl hb
    go_enter Try.func3, Try.ntmps3
    go_wp2_with fail
    refine (answers_any w).mono ?_
    rintro e w1 ⟨rfl, hC⟩
    have fin : True1 w (.returned (.bool true)) w1 := ⟨rfl, hC⟩
    clear hC
    go_wp2_with fail
    go_ret
    exact fin
  · obtain ⟨tb, htb⟩ : ∃ tb : Bool, tb = decide ((0 ≤ f ∧ f < 4) ∧ (0 ≤ p ∧ p < 16) ∧ l.length = 64) := ⟨_, rfl⟩
    obtain ⟨rb, hrb⟩ : ∃ rb : Bool, rb = decide ((0 ≤ k ∧ k < 32) ∧ l.length = 64) := ⟨_, rfl⟩
    have HL := Lib.hid (And.intro hl (And.intro hb (And.intro htb hrb)))
    clear hl hb htb hrb
    go_enter Try.func3, Try.ntmps3
    go_wp2_with fail
    refine (l_new 192 (by omega) (by omega) w).mono ?_
    rintro e w1 ⟨d, ρ, rfl, h⟩
    have H1 := Lib.hid h
    clear h
    go_upto_region 4 with fail
    go_cut [10] (fun v wc => CutB tb w1 v wc)
    case first =>
      have hcase : f < 0 ∨ (0 ≤ f ∧ 4 ≤ f) ∨ ((0 ≤ f ∧ f < 4) ∧ p < 0) ∨ ((0 ≤ f ∧ f < 4) ∧ 0 ≤ p ∧ 16 ≤ p) ∨ ((0 ≤ f ∧ f < 4) ∧ 0 ≤ p ∧ p < 16) := by omega
      rcases hcase with c1 | ⟨c1, c2⟩ | ⟨⟨c1, c2⟩, c3⟩ | ⟨⟨c1, c2⟩, c3, c4⟩ | ⟨⟨c1, c2⟩, c3, c4⟩
      case inr.inr.inr.inr =>
        by_cases e64 : l.length = 64
        · have fin : tb = true := by rw [HL.out.2.2.1]; exact decide_eq_true ⟨⟨c1, c2⟩, ⟨c3, c4⟩, e64⟩
          have hlb : ((l.length : Int) == 64) = true := by rw [beq_iff_eq]; omega
          subst fin
          clear e64
          go_wp2_with fail
          go_meet
          case rel => exact ⟨rfl, rfl⟩
        · have fin : tb = false := by rw [HL.out.2.2.1]; exact decide_eq_false (fun x => e64 x.2.2)
          have hlb : ((l.length : Int) == 64) = false := by apply beq_eq_false_iff_ne.mpr; omega
          subst fin
          clear e64
          go_wp2_with fail
          go_meet
          case rel => exact ⟨rfl, rfl⟩
      all_goals
        have fin : tb = false := by rw [HL.out.2.2.1]; exact decide_eq_false (fun x => by omega)
        subst fin
        go_wp2_with fail
        go_meet
        case rel => exact ⟨rfl, rfl⟩
    case rest =>
      obtain ⟨rfl, rfl⟩ := hcut
      have P0 : Pg (DSt.new 192) := ⟨calm_new 192, rfl⟩
      have hyp : tb = true → (0 ≤ pageN f p ∧ pageN f p < 192) ∧ l.length = 64 := fun x => by
        rw [HL.out.2.2.1] at x
        obtain ⟨a1, a2, a3⟩ := of_decide_eq_true x
        rw [page_in ⟨a1, a2⟩]; omega
      have hyn : tb = false → ¬ (0 ≤ pageN f p ∧ pageN f p < 192) ∨ l.length ≠ 64 := fun x => by
        rw [HL.out.2.2.1] at x
        have a := of_decide_eq_false x
        by_cases e : l.length = 64
        · left
          intro hh
          unfold pageN at hh
          by_cases c : (0 ≤ f ∧ f < 4) ∧ (0 ≤ p ∧ p < 16)
          · exact a ⟨c.1, c.2, e⟩
          · rw [if_neg c] at hh; omega
        · exact .inr e
      obtain ⟨x1, x2, x3, x4⟩ := pg_any P0 tb hyp hyn
      have hw1 := fwrite_any d ρ (DSt.new 192) A c l _ H1.out.at_ HL.out.2.1 (HL.out.1.chg H1.out.ch (fun _ _ _ x => x)) (fun hn ad e hh => by have := (HL.out.1).lt hn ad e; have := H1.out.nw _ hh; omega) f p
      have X := Lib.hid (And.intro x2 (And.intro x3 (And.intro x4 (And.intro hyp hyn))))
      clear x2 x3 x4 hyp hyn P0
      go_wp2_with fail
      refine hw1.mono ?_
      intro e w2 hp
      obtain ⟨rfl, hc2, ρ2, h2, hr2⟩ := H1.out.write hp
      rw [x1]
      have H2 := Lib.hid h2
      clear hw1 hp hc2 hr2 h2 x1 H1
      generalize (DSt.new 192).wr (pageN f p) l = s1 at *
      have hrd := fread_any d ρ2 s1 f p w2 H2.out.at_
      generalize hE1 : (if tb = true then (0 : Int) else 1) = E1 at *
      have HE1 := Lib.hid hE1
      clear hE1
      go_wp2_with fail
      refine hrd.mono ?_
      intro e w3 hp
      have hx : ∃ v E, e = .returned (.tuple #[v, .int .i64 E]) ∧ DL w w3 d ρ2 s1 ∧ (tb = true → E = 0 ∧ RowBy w3 ρ2 v (s1.get (pageN f p))) := by
        obtain ⟨v, he, h3, hc3, _, _⟩ := H2.out.read hp
        rw [calm_io X.out.1.1] at h3
        refine ⟨v, _, he, h3, fun ht => ?_⟩
        obtain ⟨v', he', _, _, hrow⟩ := read_pg H2.out hp X.out.1 (X.out.2.2.2.1 ht).1
        rw [he] at he'
        have e2 : v = v' ∧ s1.ioE (pageN f p) = 0 := by simpa using he'
        obtain ⟨e3, e4⟩ := e2
        subst e3
        exact ⟨e4, hrow⟩
      obtain ⟨x, G, rfl, h3, hrx⟩ := hx
      have H3 := Lib.hid (And.intro h3 hrx)
      clear hrd hp h3 hrx H2
      go_upto_region 7 with fail
      go_cut [14] (fun v wc => CutB rb w3 v wc)
      case first =>
        have hcase : k < 0 ∨ (0 ≤ k ∧ 32 ≤ k) ∨ (0 ≤ k ∧ k < 32) := by omega
        rcases hcase with c1 | ⟨c1, c2⟩ | ⟨c1, c2⟩
        case inr.inr =>
          by_cases e64 : l.length = 64
          · have fin : rb = true := by rw [HL.out.2.2.2]; exact decide_eq_true ⟨⟨c1, c2⟩, e64⟩
            have hlb : ((l.length : Int) == 64) = true := by rw [beq_iff_eq]; omega
            subst fin
            clear e64
            go_wp2_with fail
            go_meet
            case rel => exact ⟨rfl, rfl⟩
          · have fin : rb = false := by rw [HL.out.2.2.2]; exact decide_eq_false (fun x => e64 x.2)
            have hlb : ((l.length : Int) == 64) = false := by apply beq_eq_false_iff_ne.mpr; omega
            subst fin
            clear e64
            go_wp2_with fail
            go_meet
            case rel => exact ⟨rfl, rfl⟩
        all_goals
          have fin : rb = false := by rw [HL.out.2.2.2]; exact decide_eq_false (fun x => by omega)
          subst fin
          go_wp2_with fail
          go_meet
          case rel => exact ⟨rfl, rfl⟩
      case rest =>
        obtain ⟨rfl, rfl⟩ := hcut
        have hyp : rb = true → (0 ≤ slotN k ∧ slotN k < 192) ∧ l.length = 64 := fun x => by
          rw [HL.out.2.2.2] at x
          obtain ⟨a1, a2⟩ := of_decide_eq_true x
          rw [slot_in a1]; omega
        have hyn : rb = false → ¬ (0 ≤ slotN k ∧ slotN k < 192) ∨ l.length ≠ 64 := fun x => by
          rw [HL.out.2.2.2] at x
          have a := of_decide_eq_false x
          by_cases e : l.length = 64
          · left
            intro hh
            unfold slotN at hh
            by_cases c : 0 ≤ k ∧ k < 32
            · exact a ⟨c, e⟩
            · rw [if_neg c] at hh; omega
          · exact .inr e
        obtain ⟨x1, x2, x3, x4⟩ := pg_any X.out.1 rb hyp hyn
        have hget : tb = true → (s1.wr (slotN k) l).get (pageN f p) = l := fun ht => by
          have e1 : s1.get (pageN f p) = l := by
            rw [X.out.2.1 ht]; unfold DSt.get DSt.put; simp
          cases rb with
          | true =>
            have a1 := (of_decide_eq_true (HL.out.2.2.1 ▸ ht : decide _ = true))
            have a2 := (of_decide_eq_true (HL.out.2.2.2.symm : decide _ = true))
            have b1 := page_in ⟨a1.1, a1.2.1⟩
            have b2 := slot_in a2.1
            rw [x3 rfl, get_put_ne _ _ _ (by omega)]
            exact e1
          | false => rw [x4 rfl]; exact e1
        have hx1 := H3.out.2
        have hw2 := fwriteslot_any d ρ2 s1 A c l _ H3.out.1.at_ HL.out.2.1 (HL.out.1.chg H3.out.1.ch (fun _ _ _ x => x)) (fun hn ad e hh => by have := (HL.out.1).lt hn ad e; have := H3.out.1.nw _ hh; omega) k
        have HG := Lib.hid (And.intro hget (And.intro x2 (And.intro hyp (fun (hr : rb = true) => show (s1.wr (slotN k) l).get (slotN k) = l by rw [x3 hr]; unfold DSt.get DSt.put; simp))))
        clear hget x2 x3 x4 hyp hyn hx1
        go_wp2_with fail
        refine hw2.mono ?_
        intro e w4 hp
        obtain ⟨rfl, hc4, ρ3, h4, hr4⟩ := H3.out.1.write hp
        rw [x1]
        have hx4 : tb = true → G = 0 ∧ RowBy w4 ρ3 x l := fun ht => by
          obtain ⟨e1, e2⟩ := H3.out.2 ht
          have e3 : s1.get (pageN f p) = l := by rw [X.out.2.1 ht]; unfold DSt.get DSt.put; simp
          rw [e3] at e2
          obtain ⟨g, g1, g2⟩ := e2.ex
          exact ⟨e1, g, g1.chg hc4 (fun x => x g2), hr4 g g1.lt g2⟩
        have H4 := Lib.hid (And.intro h4 hx4)
        clear hw2 hp hc4 hr4 h4 hx4 x1 H3
        generalize s1.wr (slotN k) l = s2 at *
        have hrd := freadslot_any d ρ3 s2 k w4 H4.out.1.at_
        generalize hE2 : (if rb = true then (0 : Int) else 1) = E2 at *
        have HE2 := Lib.hid hE2
        clear hE2
        go_wp2_with fail
        refine hrd.mono ?_
        intro e w5 hp
        have hy : ∃ v E, e = .returned (.tuple #[v, .int .i64 E]) ∧ DL w w5 d ρ3 s2 ∧ (tb = true → G = 0 ∧ RowBy w5 ρ3 x l) ∧ (rb = true → E = 0 ∧ RowBy w5 ρ3 v l) := by
          obtain ⟨v, he, h5, hc5, _, _⟩ := H4.out.1.read hp
          rw [calm_io HG.out.2.1.1] at h5
          refine ⟨v, _, he, h5, fun ht => ⟨(H4.out.2 ht).1, (H4.out.2 ht).2.keep hc5⟩, fun ht => ?_⟩
          obtain ⟨v', he', _, _, hrow⟩ := read_pg H4.out.1 hp HG.out.2.1 (HG.out.2.2.1 ht).1
          rw [he] at he'
          have e2 : v = v' ∧ s2.ioE (slotN k) = 0 := by simpa using he'
          obtain ⟨e3, e4⟩ := e2
          subst e3
          rw [HG.out.2.2.2 ht] at hrow
          exact ⟨e4, hrow⟩
        obtain ⟨y, I, rfl, h5, hrx, hry⟩ := hy
        have H5 := Lib.hid (And.intro h5 (And.intro hrx hry))
        clear hrd hp h5 hrx hry H4
        obtain rfl := HE1.out
        obtain rfl := HE2.out
        clear HE1 HE2
        cases tb
        · cases rb
          · have HH := Lib.hid H5.out.1
            clear H5 X HG
            go_wp2_with fail
            refine (answers_any _).mono ?_
            rintro e w9 ⟨rfl, hC⟩
            have fin : True1 w (.returned (.bool true)) w9 := ⟨rfl, HH.out.ch.trans hC (fun _ _ x => x)⟩
            clear hC HH
            go_wp2_with fail
            go_ret
            exact fin
          · have HH := Lib.hid H5.out.1
            obtain ⟨rfl, hyr⟩ := H5.out.2.2 rfl
            have HX := Lib.hid hyr
            have HGS := Lib.hid (HG.out.2.2.2 rfl)
            clear hyr
            clear H5 X
            have q := of_decide_eq_true (HL.out.2.2.2.symm : decide _ = true)
            obtain ⟨⟨qa, qb⟩, q64⟩ := q
            have hrow := HX.out
            have hn : 160 + k = slotN k := (slot_in ⟨qa, qb⟩).symm
            have hr0 : 0 ≤ 160 + k ∧ 160 + k < 192 := by omega
            have hgt : s2.get (160 + k) = l := by rw [hn]; exact HGS.out
            have hrz := read_any d ρ3 s2 (160 + k) _ HH.out.at_
            have HQ := Lib.hid (And.intro hrow (And.intro hr0 hgt))
            clear hrow hr0 hgt hn q64
            go_wp2_with fail
            refine hrz.mono ?_
            intro e w6 hp
            obtain ⟨z, rfl, h6, hc6, hrz2⟩ := read_pg HH.out hp HG.out.2.1 HQ.out.2.1
            rw [HQ.out.2.2] at hrz2
            have hx6 := HQ.out.1.keep hc6
            have hlr := HL.out.1.chg h6.ch (fun _ _ _ x => x)
            obtain ⟨gx, cx, rfl, hrx⟩ := hx6.rd
            obtain ⟨gz, cz, rfl, hrz3⟩ := hrz2.rd
            have hs1 := same_any (some ⟨gx, 0, none⟩) A cx c l l w6 hrx hlr
            rw [decide_eq_true rfl] at hs1
            have H7 := Lib.hid (And.intro h6 (And.intro hrz3 (And.intro hlr trivial)))
            clear hrz hp hc6 hrz2 hx6 hlr hrx hrz3 h6 HQ HH HX 
            go_wp2_with fail
            refine hs1.mono ?_
            rintro e w7 ⟨rfl, hC⟩
            have hs2 := same_any (some ⟨gz, 0, none⟩) A cz c l l w7 (H7.out.2.1.chg hC (fun _ _ _ x => x)) (H7.out.2.2.1.chg hC (fun _ _ _ x => x))
            rw [decide_eq_true rfl] at hs2
            have H8 := Lib.hid (And.intro (H7.out.1.keep hC) trivial)
            clear hs1 hC H7
            go_wp2_with fail
            refine hs2.mono ?_
            rintro e w8 ⟨rfl, hC⟩
            have HH := Lib.hid (H8.out.1.keep hC)
            clear hs2 hC H8
            go_wp2_with fail
            refine (answers_any _).mono ?_
            rintro e w9 ⟨rfl, hC⟩
            have fin : True1 w (.returned (.bool true)) w9 := ⟨rfl, HH.out.ch.trans hC (fun _ _ x => x)⟩
            clear hC HH
            go_wp2_with fail
            go_ret
            exact fin
        · cases rb
          · have HH := Lib.hid H5.out.1
            obtain ⟨rfl, hxr⟩ := H5.out.2.1 rfl
            have HX := Lib.hid hxr
            have HGP := Lib.hid (HG.out.1 rfl)
            clear hxr
            clear H5 X
            have q := of_decide_eq_true (HL.out.2.2.1.symm : decide _ = true)
            obtain ⟨⟨qa, qb⟩, ⟨qc, qd⟩, q64⟩ := q
            have hrow := HX.out
            have hn : 96 + 16 * f + p = pageN f p := by rw [page_in ⟨⟨qa, qb⟩, qc, qd⟩]; omega
            have hr0 : 0 ≤ 96 + 16 * f + p ∧ 96 + 16 * f + p < 192 := by omega
            have hgt : s2.get (96 + 16 * f + p) = l := by rw [hn]; exact HGP.out
            have hrz := read_any d ρ3 s2 (96 + 16 * f + p) _ HH.out.at_
            have HQ := Lib.hid (And.intro hrow (And.intro hr0 hgt))
            clear hrow hr0 hgt hn q64
            go_wp2_with fail
            refine hrz.mono ?_
            intro e w6 hp
            obtain ⟨z, rfl, h6, hc6, hrz2⟩ := read_pg HH.out hp HG.out.2.1 HQ.out.2.1
            rw [HQ.out.2.2] at hrz2
            have hx6 := HQ.out.1.keep hc6
            have hlr := HL.out.1.chg h6.ch (fun _ _ _ x => x)
            obtain ⟨gx, cx, rfl, hrx⟩ := hx6.rd
            obtain ⟨gz, cz, rfl, hrz3⟩ := hrz2.rd
            have hs1 := same_any (some ⟨gx, 0, none⟩) A cx c l l w6 hrx hlr
            rw [decide_eq_true rfl] at hs1
            have H7 := Lib.hid (And.intro h6 (And.intro hrz3 (And.intro hlr trivial)))
            clear hrz hp hc6 hrz2 hx6 hlr hrx hrz3 h6 HQ HH HX 
            go_wp2_with fail
            refine hs1.mono ?_
            rintro e w7 ⟨rfl, hC⟩
            have hs2 := same_any (some ⟨gz, 0, none⟩) A cz c l l w7 (H7.out.2.1.chg hC (fun _ _ _ x => x)) (H7.out.2.2.1.chg hC (fun _ _ _ x => x))
            rw [decide_eq_true rfl] at hs2
            have H8 := Lib.hid (And.intro (H7.out.1.keep hC) trivial)
            clear hs1 hC H7
            go_wp2_with fail
            refine hs2.mono ?_
            rintro e w8 ⟨rfl, hC⟩
            have HH := Lib.hid (H8.out.1.keep hC)
            clear hs2 hC H8
            go_wp2_with fail
            refine (answers_any _).mono ?_
            rintro e w9 ⟨rfl, hC⟩
            have fin : True1 w (.returned (.bool true)) w9 := ⟨rfl, HH.out.ch.trans hC (fun _ _ x => x)⟩
            clear hC HH
            go_wp2_with fail
            go_ret
            exact fin
          · have HH := Lib.hid H5.out.1
            obtain ⟨rfl, hxr⟩ := H5.out.2.1 rfl
            have HX := Lib.hid hxr
            have HGP := Lib.hid (HG.out.1 rfl)
            clear hxr
            obtain ⟨rfl, hyr⟩ := H5.out.2.2 rfl
            have HY := Lib.hid hyr
            have HGS := Lib.hid (HG.out.2.2.2 rfl)
            clear hyr
            clear H5 X
            have q := of_decide_eq_true (HL.out.2.2.1.symm : decide _ = true)
            obtain ⟨⟨qa, qb⟩, ⟨qc, qd⟩, q64⟩ := q
            have hrow := HX.out
            have hn : 96 + 16 * f + p = pageN f p := by rw [page_in ⟨⟨qa, qb⟩, qc, qd⟩]; omega
            have hr0 : 0 ≤ 96 + 16 * f + p ∧ 96 + 16 * f + p < 192 := by omega
            have hgt : s2.get (96 + 16 * f + p) = l := by rw [hn]; exact HGP.out
            have hrz := read_any d ρ3 s2 (96 + 16 * f + p) _ HH.out.at_
            have HQ := Lib.hid (And.intro hrow (And.intro hr0 hgt))
            clear hrow hr0 hgt hn q64
            go_wp2_with fail
            refine hrz.mono ?_
            intro e w6 hp
            obtain ⟨z, rfl, h6, hc6, hrz2⟩ := read_pg HH.out hp HG.out.2.1 HQ.out.2.1
            rw [HQ.out.2.2] at hrz2
            have hx6 := HQ.out.1.keep hc6
            have hlr := HL.out.1.chg h6.ch (fun _ _ _ x => x)
            obtain ⟨gx, cx, rfl, hrx⟩ := hx6.rd
            obtain ⟨gz, cz, rfl, hrz3⟩ := hrz2.rd
            have hs1 := same_any (some ⟨gx, 0, none⟩) A cx c l l w6 hrx hlr
            rw [decide_eq_true rfl] at hs1
            have H7 := Lib.hid (And.intro h6 (And.intro hrz3 (And.intro hlr (HY.out.keep hc6))))
            clear hrz hp hc6 hrz2 hx6 hlr hrx hrz3 h6 HQ HH HX HY
            go_wp2_with fail
            refine hs1.mono ?_
            rintro e w7 ⟨rfl, hC⟩
            have hs2 := same_any (some ⟨gz, 0, none⟩) A cz c l l w7 (H7.out.2.1.chg hC (fun _ _ _ x => x)) (H7.out.2.2.1.chg hC (fun _ _ _ x => x))
            rw [decide_eq_true rfl] at hs2
            have H8 := Lib.hid (And.intro (H7.out.1.keep hC) (H7.out.2.2.2.keep0 hC))
            clear hs1 hC H7
            go_wp2_with fail
            refine hs2.mono ?_
            rintro e w8 ⟨rfl, hC⟩
            have HH := Lib.hid (H8.out.1.keep hC)
            have HX := Lib.hid (H8.out.2.keep0 hC)
            clear hs2 hC H8
            have q := of_decide_eq_true (HL.out.2.2.2.symm : decide _ = true)
            obtain ⟨⟨ra, rb⟩, q64⟩ := q
            have hrow := HX.out
            have hn : 160 + k = slotN k := (slot_in ⟨ra, rb⟩).symm
            have hr0 : 0 ≤ 160 + k ∧ 160 + k < 192 := by omega
            have hgt : s2.get (160 + k) = l := by rw [hn]; exact HGS.out
            have hrz := read_any d ρ3 s2 (160 + k) _ HH.out.at_
            have HQ := Lib.hid (And.intro hrow (And.intro hr0 hgt))
            clear hrow hr0 hgt hn q64
            go_wp2_with fail
            refine hrz.mono ?_
            intro e w6 hp
            obtain ⟨z, rfl, h6, hc6, hrz2⟩ := read_pg HH.out hp HG.out.2.1 HQ.out.2.1
            rw [HQ.out.2.2] at hrz2
            have hx6 := HQ.out.1.keep hc6
            have hlr := HL.out.1.chg h6.ch (fun _ _ _ x => x)
            obtain ⟨gx, cx, rfl, hrx⟩ := hx6.rd
            obtain ⟨gz, cz, rfl, hrz3⟩ := hrz2.rd
            have hs1 := same_any (some ⟨gx, 0, none⟩) A cx c l l w6 hrx hlr
            rw [decide_eq_true rfl] at hs1
            have H7 := Lib.hid (And.intro h6 (And.intro hrz3 (And.intro hlr trivial)))
            clear hrz hp hc6 hrz2 hx6 hlr hrx hrz3 h6 HQ HH HX 
            go_wp2_with fail
            refine hs1.mono ?_
            rintro e w7 ⟨rfl, hC⟩
            have hs2 := same_any (some ⟨gz, 0, none⟩) A cz c l l w7 (H7.out.2.1.chg hC (fun _ _ _ x => x)) (H7.out.2.2.1.chg hC (fun _ _ _ x => x))
            rw [decide_eq_true rfl] at hs2
            have H8 := Lib.hid (And.intro (H7.out.1.keep hC) trivial)
            clear hs1 hC H7
            go_wp2_with fail
            refine hs2.mono ?_
            rintro e w8 ⟨rfl, hC⟩
            have HH := Lib.hid (H8.out.1.keep hC)
            clear hs2 hC H8
            go_wp2_with fail
            refine (answers_any _).mono ?_
            rintro e w9 ⟨rfl, hC⟩
            have fin : True1 w (.returned (.bool true)) w9 := ⟨rfl, HH.out.ch.trans hC (fun _ _ x => x)⟩
            clear hC HH
            go_wp2_with fail
            go_ret
            exact fin
theorem filePages_row (a0 a1 a2 : Int) (a3 : Option Addr) (len3 cap3 : Nat) (z3 : List Int) (W : World) (w0 : (Lit.int .i64 a0).wf = true) (_ : (Lit.int .i64 a1).wf = true) (_ : (Lit.int .i64 a2).wf = true) (w3 : IsRow .u8 W a3 len3 cap3 z3) (y3 : len3 * 1 ≤ 140737488351232) :
    Calls Try.prog 3 #[.int .i64 a0, .int .i64 a1, .int .i64 a2, .slice a3 len3 cap3] W fun e w' => e = .returned (.bool true) ∧ Below W.heap.size W w' := by
  obtain ⟨h1, h2, h3, h4⟩ := rd_of_row w3 (by omega)
  have := filePages a0 a1 a2 a3 cap3 (z3.take len3) W h1 (fun x hx => u8b (h4 x hx))
  rw [h2] at this
  exact this.mono fun _ _ h => h.row
end Go.Proofs.Ytlhlnkfmmklkbaa.File
