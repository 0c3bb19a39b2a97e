/- Frames and what they are used for: PoolRuns. -/
import Derived.Test.YtlhlnkfmmklkbaaPoolS
namespace Go.Proofs.Ytlhlnkfmmklkbaa.Pool
open Go.RowKit Go.Proofs.Ytlhlnkfmmklkbaa.Hp Go.Proofs.Ytlhlnkfmmklkbaa.Runs
set_option linter.unusedVariables false
set_option linter.unusedSimpArgs false
/-- section 2 is on line, some of its frames are bad, the others free -/
structure Sec (S : PS) : Prop where
  o : ∀ f, ¬ (64 ≤ f ∧ f < 96) → S.U f = 0
  u : ∀ f, 64 ≤ f ∧ f < 96 → S.U f = 1 ∨ S.U f = 6
  z : ∀ s, S.Z s = if s = 2 then 2 else 0
  i : ∀ s, S.I s = false
theorem sec_start : PS.new.onE 2 2 = 0 ∧ Sec (PS.new.online 2 2 []) := by
  obtain ⟨e1, e2⟩ := online_ok (S := PS.new) (s := 2) (z := 2) (by decide) (.inl rfl) rfl []
  refine ⟨e1, ?_⟩
  rw [e2]
  have hU := onU_nil PS.new.U (2 * 32) 32 (fun f => by show (0 : Int) ≠ 6; omega)
  refine ⟨fun f hf => ?_, fun f hf => ?_, fun s => rfl, fun s => ?_⟩
  · show onU PS.new.U (2 * 32) [] 32 f = 0
    rw [hU, if_neg (by omega)]; rfl
  · show onU PS.new.U (2 * 32) [] 32 f = 1 ∨ onU PS.new.U (2 * 32) [] 32 f = 6
    rw [hU, if_pos (by omega)]; exact .inl rfl
  · show updB (fun _ => false) 2 false s = false
    unfold updB; split <;> rfl
theorem sec_spoil {S : PS} (h : Sec S) (f : Int) (hf : 64 ≤ f ∧ f < 96) : Sec (S.spoil f) := by
  unfold PS.spoil
  split
  · refine ⟨fun g hg => ?_, fun g hg => ?_, h.z, h.i⟩
    · show upd S.U f.toNat 6 g = 0
      unfold upd; rw [if_neg (by omega)]; exact h.o g hg
    · show upd S.U f.toNat 6 g = 1 ∨ upd S.U f.toNat 6 g = 6
      unfold upd
      by_cases e : g = f.toNat
      · rw [if_pos e]; exact .inr rfl
      · rw [if_neg e]; exact h.u g hg
  · exact h
/-- a run of s frames from f on, of which the first j have been freed again -/
def runV (V : Nat → Int) (f s j : Nat) : Nat → Int := fun g => if f + j ≤ g ∧ g < f + s then 5 else V g
theorem runV_zero (V : Nat → Int) (f s : Nat) : runV V f s 0 = allocU V f s 5 := rfl
theorem runV_end (V : Nat → Int) (f s : Nat) : runV V f s s = V := by
  funext g; unfold runV; rw [if_neg (by omega)]
theorem runV_succ (V : Nat → Int) (f s j : Nat) (hj : j < s) (h1 : V (f + j) = 1) : upd (runV V f s j) (f + j) 1 = runV V f s (j + 1) := by
  funext g
  unfold upd runV
  by_cases e : g = f + j
  · subst e; rw [if_pos rfl, if_neg (by omega), h1]
  · rw [if_neg e]
    by_cases c : f + j ≤ g ∧ g < f + s
    · have c' : f + (j + 1) ≤ g ∧ g < f + s := by omega
      rw [if_pos c, if_pos c']
    · have c' : ¬ (f + (j + 1) ≤ g ∧ g < f + s) := by omega
      rw [if_neg c, if_neg c']
theorem cnt_upd (U : Nat → Int) (x a k : Nat) (hx : a ≤ x ∧ x < a + k) (hn : U x ≠ 1) : cnt (upd U x 1) 1 a k = cnt U 1 a k + 1 := by
  induction k with
  | zero => omega
  | succ k ih =>
    have e1 : cnt (upd U x 1) 1 a (k + 1) = cnt (upd U x 1) 1 a k + (if upd U x 1 (a + k) == 1 then 1 else 0) := rfl
    have e2 : cnt U 1 a (k + 1) = cnt U 1 a k + (if U (a + k) == 1 then 1 else 0) := rfl
    by_cases c : x < a + k
    · have := ih ⟨hx.1, c⟩
      have e3 : upd U x 1 (a + k) = U (a + k) := if_neg (by omega)
      rw [e1, e2, e3, this]; omega
    · obtain rfl : x = a + k := by omega
      have same : ∀ m, m ≤ k → cnt (upd U (a + k) 1) 1 a m = cnt U 1 a m := by
        intro m hm
        induction m with
        | zero => rfl
        | succ m ihm =>
          have e3 : upd U (a + k) 1 (a + m) = U (a + m) := if_neg (by omega)
          unfold cnt
          rw [ihm (by omega), e3]
      have e4 : upd U (a + k) 1 (a + k) = 1 := if_pos rfl
      have e5 : (U (a + k) == 1) = false := by simp [hn]
      rw [e1, e2, same k (Nat.le_refl _), e4, e5]; simp
theorem runV_cnt (V : Nat → Int) (f s j : Nat) (hj : j ≤ s) (h1 : ∀ k, k < s → V (f + k) = 1) (hf : 64 ≤ f ∧ f + s ≤ 96) : cnt (runV V f s j) 1 64 32 + (s - j) = cnt V 1 64 32 := by
  have key : ∀ d, d ≤ s → cnt (runV V f s (s - d)) 1 64 32 + d = cnt V 1 64 32 := by
    intro d
    induction d with
    | zero => intro _; rw [Nat.sub_zero, runV_end]; rfl
    | succ d ih =>
      intro hd
      have := ih (by omega)
      have e := runV_succ V f s (s - (d + 1)) (by omega) (h1 _ (by omega))
      rw [show s - (d + 1) + 1 = s - d from by omega] at e
      rw [← e, cnt_upd _ _ 64 32 (by omega)] at this
      · omega
      · unfold runV; rw [if_pos (by omega)]; decide
  have := key (s - j) (by omega)
  rwa [show s - (s - j) = j from by omega] at this
/-- the pool with a run given of which the first j have been freed again -/
def runS (S : PS) (f s j : Nat) : PS := { S with U := runV S.U f s j }
theorem sec_good {S : PS} (h : Sec S) {s f : Nat} (hs : s ∣ 32) (hg : Good S.U S.Z S.I 2 s f) : f % s = 0 ∧ 64 ≤ f ∧ f + s ≤ 96 ∧ 1 ≤ s ∧ ∀ k, k < s → S.U (f + k) = 1 := by
  obtain ⟨h1, h2, h3, h4, h5⟩ := hg
  have hk : f / 32 = 2 := by
    rw [h.z] at h3
    by_cases e : f / 32 = 2
    · exact e
    · rw [if_neg e] at h3; omega
  have sp : 0 < s := by
    rcases Nat.eq_zero_or_pos s with rfl | x
    · obtain ⟨c, hc⟩ := hs; omega
    · exact x
  have := (div_sect s hs f 2 h1).mpr ⟨hk, sp⟩
  exact ⟨h1, by omega, by omega, sp, h5⟩
theorem sec_alloc {S : PS} (h : Sec S) (o : Nat) (ho : o ≤ 5) : (S.allocE 5 o false = 4 ∧ S.allocF 5 o false = 0 ∧ S.alloc 5 o false = S) ∨
    ∃ f, S.allocE 5 o false = 0 ∧ S.allocF 5 o false = f ∧ S.alloc 5 o false = runS S f (2 ^ o) 0 ∧ f % 2 ^ o = 0 ∧ 64 ≤ f ∧ f + 2 ^ o ≤ 96 ∧ ∀ k, k < 2 ^ o → S.U (f + k) = 1 := by
  have ha : ArgOk 5 o := ⟨by decide, by decide, by omega, by omega⟩
  cases hp : S.pick o false with
  | none =>
    obtain ⟨h1, h2, h3⟩ := alloc_full ha hp
    exact .inl ⟨h1, h2, h3⟩
  | some f =>
    obtain ⟨h1, h2, h3⟩ := alloc_some ha hp
    rw [pick_no, Int.toNat_natCast] at hp
    have hg := sec_good h (pow_dvd o ho) (first_of_some hp).1
    exact .inr ⟨f, h1, h2, by rw [h3]; rfl, hg.1, hg.2.1, hg.2.2.1, hg.2.2.2.2⟩
theorem runS_free {S : PS} {f s j : Nat} (hj : j < s) (hf : 64 ≤ f ∧ f + s ≤ 96) (h1 : ∀ k, k < s → S.U (f + k) = 1) : (runS S f s j).use (f + j : Nat) = 5 ∧ (runS S f s j).freeB (f + j : Nat) = true ∧ (runS S f s j).free (f + j : Nat) = runS S f s (j + 1) ∧ (runS S f s (j + 1)).freeB (f + j : Nat) = false ∧ (runS S f s (j + 1)).free (f + j : Nat) = runS S f s (j + 1) := by
  have u5 : (runS S f s j).use (f + j : Nat) = 5 := by
    unfold PS.use useD
    rw [if_pos ⟨by omega, by omega⟩, Int.toNat_natCast]
    show runV S.U f s j (f + j) = 5
    unfold runV; rw [if_pos (by omega)]
  have b1 : (runS S f s j).freeB (f + j : Nat) = true := by unfold PS.freeB; rw [u5]; decide
  have u1 : (runS S f s (j + 1)).use (f + j : Nat) = 1 := by
    unfold PS.use useD
    rw [if_pos ⟨by omega, by omega⟩, Int.toNat_natCast]
    show runV S.U f s (j + 1) (f + j) = 1
    unfold runV; rw [if_neg (by omega)]; exact h1 j hj
  have b2 : (runS S f s (j + 1)).freeB (f + j : Nat) = false := by unfold PS.freeB; rw [u1]; decide
  refine ⟨u5, b1, ?_, b2, ?_⟩
  · unfold PS.free
    rw [if_pos b1, Int.toNat_natCast]
    show ({ S with U := upd (runV S.U f s j) (f + j) 1 } : PS) = _
    rw [runV_succ S.U f s j hj (h1 j hj)]; rfl
  · unfold PS.free
    rw [b2, if_neg (by decide)]
theorem runS_count {S : PS} {f s j : Nat} (hj : j ≤ s) (hf : 64 ≤ f ∧ f + s ≤ 96) (h1 : ∀ k, k < s → S.U (f + k) = 1) : (runS S f s j).count 2 1 + (s - j) = S.count 2 1 := by
  have := runV_cnt S.U f s j hj h1 hf
  unfold PS.count
  rw [if_pos (by decide), if_pos (by decide)]
  exact this
def SpRel (w0 : World) (p b bi : Nat) (n : Nat) (i : Value) (wr : World) : Prop := ∃ (k : Nat) (S : PS), k ≤ n ∧ i = .int .i64 k ∧ PL w0 wr p b bi S ∧ Sec S
def FrRel (w0 : World) (p b bi : Nat) (S : PS) (f s : Nat) (i : Value) (wr : World) : Prop := ∃ (j : Nat), j ≤ s ∧ i = .int .i64 ((f + j : Nat) : Int) ∧ PL w0 wr p b bi (runS S f s j)
set_option maxRecDepth 100000 in
set_option maxHeartbeats 2000000 in
theorem poolRuns (n : Int) (A : Option Addr) (c : Nat) (l : List Int) (w : World) (h0 : 0 ≤ n) (h1 : n ≤ 255) (hl : Rd w .u8 A l) (hb : ∀ x ∈ l, 0 ≤ x ∧ x ≤ 255) : Calls Try.prog 7 #[.int .u8 n, .slice A l.length c] w (True1 w) := by
  have hlen := hl.1
  by_cases big : 40 < l.length
  · go_enter Try.func7, Try.ntmps7
    go_wp2_with fail
    refine (answers_any w).mono ?_
    rintro e w1 ⟨rfl, hC⟩
    have fin : True1 w (.returned (.bool true)) w1 := ⟨rfl, hC⟩
    clear hC hl hb
    go_wp2_with fail
    go_ret
    exact fin
  · obtain ⟨t1, t2⟩ := sec_start
    have HT := Lib.hid t2
    have HL := Lib.hid hl
    have HB := Lib.hid hb
    clear t2 hl hb
    go_enter Try.func7, Try.ntmps7
    go_wp2_with fail
    refine (l_new w).mono ?_
    rintro e w1 ⟨p, b, bi, rfl, h⟩
    have hon := l_online0 2 2 h
    rw [t1] at hon
    clear h t1
    go_wp2_with fail
    refine hon.mono ?_
    rintro e w2 ⟨rfl, h⟩
    clear hon
    generalize PS.new.online 2 2 [] = S0 at *
    go_wp2_with fail
    go_loopw [6] (fun i wr => SpRel w p b bi l.length i wr) (fun i wr => (l.length - intOf i).toNat)
    case atStart => exact ⟨0, S0, by omega, rfl, h, HT.out⟩
    case round =>
      clear HT h
      obtain ⟨k, S, hk, rfl, h, hS⟩ := hrel
      by_cases hlt : k < l.length
      · obtain ⟨ad, rfl, hcell⟩ := (HL.out.chg h.ch (fun _ ad _ x => x)).at_ k hlt
        have hx : 0 ≤ l.getD k 0 ∧ l.getD k 0 ≤ 255 := HB.out _ (by rw [List.getD_eq_getElem?_getD, List.getElem?_eq_getElem hlt]; simp)
        generalize l.getD k 0 = x at *
        obtain ⟨x0, x1⟩ := hx
        have hsp := l_spoil (64 + x % 32) h
        have nx : ∀ w', PL w w' p b bi (S.spoil (64 + x % 32)) → SpRel w p b bi l.length (.int .i64 ((k : Int) + 1)) w' := fun w' h1 => ⟨k + 1, _, by omega, rfl, h1, sec_spoil hS _ (by omega)⟩
        have NX := Lib.hid nx
        clear nx h hS
        generalize S.spoilB (64 + x % 32) = bb at *
        go_wp2_with fail
        refine hsp.mono ?_
        rintro e w4 ⟨rfl, h⟩
        have N := NX.out w4 h
        clear hsp h NX
        go_wp2_with fail
        go_roundw
        case rel => exact N
        case measure => simp [intOf]; omega
      · have hcn := l_count 2 1 h
        have hal := fun (o : Nat) w' (h : PL w w' p b bi S) => l_alloc 5 o false h
        have sal := fun (o : Nat) (ho : o ≤ 5) => sec_alloc hS o ho
        have HCN := Lib.hid (fun w' (h : PL w w' p b bi S) => l_count 2 1 h)
        have hm : S.count 2 1 ≤ 32 := by unfold PS.count; rw [if_pos (by decide)]; exact cnt_le _ _ _ _
        have HRC := Lib.hid (fun f s j (hj : j ≤ s) (hf : 64 ≤ f ∧ f + s ≤ 96) (h1 : ∀ k, k < s → S.U (f + k) = 1) => runS_count (S := S) hj hf h1)
        obtain ⟨o, hoo⟩ := Int.eq_ofNat_of_zero_le (show 0 ≤ n % 6 by omega)
        have ho : o ≤ 5 := by omega
        have HO := Lib.hid hoo
        clear hS hoo HL HB
        generalize S.count 2 1 = m at *
        have HAL := Lib.hid hal
        have HSA := Lib.hid (sal o ho)
        clear sal hal
        go_wp2_with fail
        refine hcn.mono ?_
        rintro e w5 ⟨rfl, rfl⟩
        clear hcn
        go_wp2_with fail
        rw [HO.out]
        have hwp := wrap_pow o ho
        have hs1 : 1 ≤ 2 ^ o := Nat.two_pow_pos o
        have hs2 : 2 ^ o ≤ 32 := Nat.le_of_dvd (by omega) (pow_dvd o ho)
        rw [Int.toNat_natCast, hwp]
        clear hwp
        have ha := HAL.out o _ h
        clear HAL
        generalize 2 ^ o = s at *
        rcases HSA.out with ⟨e1, e2, e3⟩ | ⟨f, e1, e2, e3, f1, f2, f3, f4⟩
        · rw [e1, e2, e3] at ha
          clear e1 e2 e3 HSA h
          refine ha.mono ?_
          rintro e w6 ⟨rfl, h⟩
          clear ha
          go_wp2_with fail
          refine (answers_any w6).mono ?_
          rintro e w7 ⟨rfl, hC⟩
          have h := h.keep hC
          have hcn := HCN.out w7 h
          have fin : True1 w (.returned (.bool true)) w7 := ⟨rfl, h.ch⟩
          clear h hC HCN
          go_wp2_with fail
          refine hcn.mono ?_
          rintro e w8 ⟨rfl, rfl⟩
          clear hcn
          go_wp2_with fail
          go_ret
          exact fin
        · rw [e1, e2, e3] at ha
          clear e1 e2 e3 HSA h
          refine ha.mono ?_
          rintro e w6 ⟨rfl, h⟩
          clear ha
          have q1 : (((f : Int) % (s : Int)) != 0) = false := by
            have : (f : Int) % (s : Int) = ((f % s : Nat) : Int) := by omega
            rw [this, f1]; rfl
          have hsne : ((s : Int) == 0) = false := by apply beq_eq_false_iff_ne.mpr; omega
          have hr0 := HRC.out f s 0 (by omega) ⟨f2, f3⟩ f4
          have hrs := HRC.out f s s (by omega) ⟨f2, f3⟩ f4
          have c0 := l_count 2 1 h
          have HF4 := Lib.hid f4
          have hm2 : s ≤ m := by omega
          rw [show (runS S f s 0).count 2 1 = m - s from by omega, show ((m - s : Nat) : Int) = (m : Int) - s from by omega] at c0
          have HRS := Lib.hid (show (runS S f s s).count 2 1 = m by omega)
          clear f4 f1 hr0 hrs HRC HCN
          go_wp2_with fail
          refine c0.mono ?_
          rintro e w7 ⟨rfl, rfl⟩
          clear c0
          go_wp2_with fail
          go_loopw [12] (fun i wr => FrRel w p b bi S f s i wr) (fun i wr => ((f : Int) + s - intOf i).toNat)
          case atStart => exact ⟨0, by omega, rfl, h⟩
          case round =>
            clear h
            obtain ⟨j, hj, rfl, h⟩ := hrel
            by_cases hlt : j < s
            · obtain ⟨g1, g2, g3, g4, g5⟩ := runS_free hlt ⟨f2, f3⟩ HF4.out
              have hu := l_use (f + j : Nat) h
              have hf := l_free (f + j : Nat) h
              rw [g1] at hu
              rw [g2, g3] at hf
              have HG := Lib.hid (And.intro g4 g5)
              have nx : ∀ w', PL w w' p b bi (runS S f s (j + 1)) → FrRel w p b bi S f s (.int .i64 (((f + j : Nat) : Int) + 1)) w' := fun w' h1 => ⟨j + 1, by omega, rfl, h1⟩
              have NX := Lib.hid nx
              clear nx h g1 g2 g3 g4 g5
              go_wp2_with fail
              refine hu.mono ?_
              rintro e w8 ⟨rfl, rfl⟩
              clear hu
              go_wp2_with fail
              refine hf.mono ?_
              rintro e w8 ⟨rfl, h⟩
              clear hf
              have hf := l_free (f + j : Nat) h
              rw [HG.out.1, HG.out.2] at hf
              clear h HG
              go_wp2_with fail
              refine hf.mono ?_
              rintro e w9 ⟨rfl, h⟩
              have N := NX.out w9 h
              clear hf h NX
              go_wp2_with fail
              exact ⟨N, by simp [intOf]; omega⟩
            · obtain rfl : j = s := by omega
              go_wp2_with fail
              refine (answers_any _).mono ?_
              rintro e w7 ⟨rfl, hC⟩
              have h := h.keep hC
              have hcn := l_count 2 1 h
              rw [HRS.out] at hcn
              have fin : True1 w (.returned (.bool true)) w7 := ⟨rfl, h.ch⟩
              clear h hC HRS
              go_wp2_with fail
              refine hcn.mono ?_
              rintro e w8 ⟨rfl, rfl⟩
              clear hcn
              go_wp2_with fail
              go_ret
              exact fin
theorem poolRuns_row (n : Int) (a1 : Option Addr) (len1 cap1 : Nat) (z1 : List Int) (W : World) (h : (Lit.int .u8 n).wf = true) (w1 : IsRow .u8 W a1 len1 cap1 z1) (y1 : len1 * 1 ≤ 140737488351232) :
    Calls Try.prog 7 #[.int .u8 n, .slice a1 len1 cap1] W fun e w' => e = .returned (.bool true) ∧ Below W.heap.size W w' := by
  obtain ⟨h1, h2, h3, h4⟩ := rd_of_row w1 (by omega)
  have := poolRuns n a1 cap1 (z1.take len1) W (u8_bounds h).1 (u8_bounds h).2 h1 (fun x hx => u8_bounds (h4 x hx))
  rw [h2] at this
  exact this.mono fun _ _ h => h.row
end Go.Proofs.Ytlhlnkfmmklkbaa.Pool
