/- Runs of frames: RunsPlays: the loops. -/
import Derived.Test.YtilameppdnmgdaaRunsC
import Derived.Test.YtilameppdnmgdaaRunsE
namespace Go.Proofs.Ytilameppdnmgdaa.Runs
open Go.RowKit Go.Proofs.Ytilameppdnmgdaa.Hp
set_option linter.unusedVariables false
set_option linter.unusedSimpArgs false
theorem BoolAt.chg {S : Nat → Prop} {w w' : World} {g : Nat} {L : List Int} (h : BoolAt w g L) (hc : Chg S w w') (hs : ¬ S g) : BoolAt w' g L := hc.blk h hs
theorem BoolAt.set {w : World} {g : Nat} {L : List Int} (h : BoolAt w g L) (v : Int) (i : Nat) (b : Bool) (hb : (v == 1) = b) : BoolAt (w.setCell ⟨g, i, none⟩ (.bool b)) g (L.set i v) := by
  subst hb
  have := bset h i (.bool (v == 1))
  have e : ((L.set i v).map (fun x => Value.bool (x == 1))).toArray = (L.map (fun x => Value.bool (x == 1))).toArray.setIfInBounds i (.bool (v == 1)) := by simp [List.map_set]
  unfold BoolAt
  rw [e]; exact this
/-- A loop's state: of the numbers F, k are put into the list. -/
def BPutRel (w : World) (g : Nat) (L : List Int) (v : Int) (F : List Int) (i : Value) (wr : World) : Prop :=
  ∃ k : Nat, k ≤ F.length ∧ i = .int .i64 k ∧ BoolAt wr g (putL v L (F.take k)) ∧ Chg (· = g) w wr
theorem BPutRel.same {w : World} {g : Nat} {L : List Int} {v : Int} {F : List Int} {k : Nat} {wr : World} (hk : k < F.length) (h : BoolAt wr g (putL v L (F.take k))) (hc : Chg (· = g) w wr) (x : Int) (hx : x = F.getD k 0) (ho : ¬ (0 ≤ x ∧ x < (L.length : Int))) : BPutRel w g L v F (.int .i64 ((k : Int) + 1)) wr := by
  refine ⟨k + 1, by omega, rfl, ?_, hc⟩
  rw [take_succ_getD F k hk, putL_snoc, ← hx]
  unfold put1
  rw [putL_length, if_neg ho]; exact h
theorem BPutRel.put {w : World} {g : Nat} {L : List Int} {v : Int} {F : List Int} {k : Nat} {wr : World} (hk : k < F.length) (h : BoolAt wr g (putL v L (F.take k))) (hc : Chg (· = g) w wr) (x : Int) (hx : x = F.getD k 0) (ho : 0 ≤ x ∧ x < (L.length : Int)) (b : Bool) (hb : (v == 1) = b) : BPutRel w g L v F (.int .i64 ((k : Int) + 1)) (wr.setCell ⟨g, x.toNat, none⟩ (.bool b)) := by
  refine ⟨k + 1, by omega, rfl, ?_, Chg.set (S := (· = g)) hc (p := ⟨g, x.toNat, none⟩) (.inl rfl) _⟩
  rw [take_succ_getD F k hk, putL_snoc, ← hx]
  have := h.set v x.toNat b hb
  unfold put1
  rw [putL_length, if_pos ho]; exact this
def SeenRel (L : List Int) (w : World) (v i : Value) (wr : World) : Prop :=
  ∃ k : Nat, k ≤ L.length ∧ i = .int .i64 k ∧ wr.ownsRow w.heap.size 3 1 v (idx L k).length ((idx L k).map (Value.int .i64)) ∧ Chg NoB w wr
def RS (L : List Int) (o fr tt : Int) (f : Nat) (ok : Bool) : Prop := ((o < 0 ∨ 5 < o) ∧ f = 0 ∧ ok = false) ∨ ((0 ≤ o ∧ o ≤ 5) ∧ RunSpec L (2 ^ o.toNat) fr tt f ok)
def RSPost (L : List Int) (o fr tt : Int) (w : World) (e : Ending) (w' : World) : Prop := ∃ f ok, e = .returned (.tuple #[.int .i64 (f : Nat), .bool ok]) ∧ RS L o fr tt f ok ∧ Chg NoB w w'
theorem rs_unique {L : List Int} {o fr tt : Int} {f g : Nat} {a b : Bool} (h1 : RS L o fr tt f a) (h2 : RS L o fr tt g b) : f = g ∧ a = b := by
  rcases h1 with ⟨x, rfl, rfl⟩ | ⟨x, h1⟩ <;> rcases h2 with ⟨y, rfl, rfl⟩ | ⟨y, h2⟩
  · exact ⟨rfl, rfl⟩
  · omega
  · omega
  · exact spec_unique _ _ _ _ _ _ _ _ h1 h2
theorem run_both (b bi : Nat) (L : List Int) (o fr tt : Int) (w : World) (h : RSet w b bi L) :
    Calls Try.prog 20 #[.pointer (some ⟨b, 0, none⟩), .int .i64 o, .int .i64 fr, .int .i64 tt] w (RSPost L o fr tt w) := by
  by_cases c : o < 0 ∨ 5 < o
  · refine (run_bad _ o fr tt w (.inr c)).mono ?_
    rintro e w' ⟨rfl, rfl⟩
    exact ⟨0, false, rfl, .inl ⟨c, rfl, rfl⟩, Chg.refl _ _⟩
  · obtain ⟨k, rfl⟩ := Int.eq_ofNat_of_zero_le (show 0 ≤ o by omega)
    refine (run_yes b bi L k (by omega) fr tt w h).mono ?_
    rintro e w' ⟨f, ok, rfl, hs, hc⟩
    exact ⟨f, ok, rfl, .inr ⟨by omega, hs⟩, hc⟩
theorem rrun_both (g c : Nat) (L : List Int) (o fr tt : Int) (w : World) (h : BoolAt w g L) (hle : L.length ≤ 1024) :
    Calls Try.prog 24 #[.slice (some ⟨g, 0, none⟩) L.length c, .int .i64 o, .int .i64 fr, .int .i64 tt] w (RSPost L o fr tt w) := by
  by_cases c : o < 0 ∨ 5 < o
  · refine (rrun_bad _ _ _ o fr tt w c).mono ?_
    rintro e w' ⟨rfl, rfl⟩
    exact ⟨0, false, rfl, .inl ⟨c, rfl, rfl⟩, Chg.refl _ _⟩
  · obtain ⟨k, rfl⟩ := Int.eq_ofNat_of_zero_le (show 0 ≤ o by omega)
    refine (rrun_yes g _ L k (by omega) fr tt w h hle).mono ?_
    rintro e w' ⟨f, ok, rfl, hs, hc⟩
    exact ⟨f, ok, rfl, .inr ⟨by omega, hs⟩, hc⟩
set_option maxRecDepth 100000 in
set_option maxHeartbeats 16000000 in
theorem runsPlays (n : Int) (A1 A2 : Option Addr) (c1 c2 : Nat) (F1 F2 : List Int) (o fr tt : Int) (w : World) (h1 : Rd w .i64 A1 F1) (h2 : Rd w .i64 A2 F2) :
    Calls Try.prog 5 #[.int .i64 n, .slice A1 F1.length c1, .slice A2 F2.length c2, .int .i64 o, .int .i64 fr, .int .i64 tt] w (TrueB w) := by
  have z1 := h1.1
  have z2 := h2.1
  by_cases big1 : 300 < F1.length
  · have d1 : decide ((300 : Int) < (F1.length : Int)) = true := decide_eq_true (by omega)
    clear big1
    go_enter Try.func5, Try.ntmps5
    go_wp2_with fail
    refine (answers _).mono ?_
    rintro e w1 ⟨rfl, hC⟩
    go_wp2_with fail
    go_ret
    exact ⟨rfl, hC⟩
  have d1 : decide ((300 : Int) < (F1.length : Int)) = false := decide_eq_false (by omega)
  by_cases big2 : 300 < F2.length
  · have d2 : decide ((300 : Int) < (F2.length : Int)) = true := decide_eq_true (by omega)
    clear big2
    go_enter Try.func5, Try.ntmps5
    go_wp2_with fail
    refine (answers _).mono ?_
    rintro e w1 ⟨rfl, hC⟩
    go_wp2_with fail
    go_ret
    exact ⟨rfl, hC⟩
  have d2 : decide ((300 : Int) < (F2.length : Int)) = false := decide_eq_false (by omega)
  have infoB : (Try.prog.info? 4).map (fun i => (i.zero, i.size, i.bytes)) = some (some (.bool false), 1, 1) := by kernel_rfl
  have hmk := fun (m : Int) (h0 : 0 ≤ m) (h1 : m ≤ 1024) => run_make1 (P := Try.prog) 39 4 (.bool false) 1 Try.underlying39 infoB rfl m h0 (by omega) (by omega)
  have hm := hmk (clampF n) (by omega) (by unfold clampF; split <;> (try split) <;> omega)
  rw [Int.toNat_natCast] at hm
  clear hmk infoB
  have hm24 : clampF n ≤ 1024 := by unfold clampF; split <;> (try split) <;> omega
  go_enter Try.func5, Try.ntmps5
  go_wp2_with fail
  refine (new_any n _).mono ?_
  rintro e w1 ⟨b, bi, rfl, hR, hb, hbi, hC⟩
  go_wp2_with fail
  refine (cut_1024 n _).mono ?_
  rintro e w2 ⟨rfl, rfl⟩
  generalize clampF n = m at *
  have B2 : BoolAt (w1.alloc (.cells (Array.replicate m (.bool false)) 4)) w1.heap.size (List.replicate m 0) := by
    have : ((List.replicate m (0 : Int)).map (fun x => Value.bool (x == 1))).toArray = Array.replicate m (.bool false) := by simp
    unfold BoolAt
    rw [this]; exact bnew _ _
  have C2 : Chg NoB w (w1.alloc (.cells (Array.replicate m (.bool false)) 4)) := hC.alloc _
  have R2 := hR.chg ((Chg.refl NoB w1).alloc (.cells (Array.replicate m (.bool false)) 4)) (fun x => x) (fun x => x)
  have hbg : b < w1.heap.size := blt hR.st
  have hbig : bi < w1.heap.size := blt hR.xs
  have hw1 : w.heap.size ≤ w1.heap.size := hC.size
  clear hR hC
  go_wp2_with fail
  refine (add_any b bi _ A1 c1 F1 _ R2 (h1.chg C2 (fun _ _ _ x => x)) (h1.old (S := (· = bi)) (fun i hi => by subst hi; exact hbi))).mono ?_
  rintro e w3 ⟨rfl, R3, k3⟩
  have C3 : Chg NoB w w3 := C2.trans k3 (fun i hi hh => by omega)
  have B3 := B2.chg k3 (by omega)
  clear R2 B2 C2 k3
  generalize hg : w1.heap.size = g at *
  clear hg
  generalize hL0 : List.replicate m (0 : Int) = L0 at *
  have l0 : L0.length = m := by rw [← hL0]; simp
  clear hL0
  go_wp2_with fail
  refine (drop_any b bi _ A2 c2 F2 _ R3 (h2.chg C3 (fun _ _ _ x => x)) (h2.old (S := (· = bi)) (fun i hi => by subst hi; exact hbi))).mono ?_
  rintro e w4 ⟨rfl, R4, k4⟩
  have C4 : Chg NoB w w4 := C3.trans k4 (fun i hi hh => by omega)
  have B4 := B3.chg k4 (by omega)
  clear R3 B3 C3 k4
  have gw : w.heap.size ≤ g := hw1
  go_wp2_with fail
  go_loopw [15] (fun i wr => BPutRel w4 g L0 1 F1 i wr) (fun i wr => F1.length - (intOf i).toNat)
  case atStart => exact ⟨0, by omega, rfl, B4, Chg.refl _ _⟩
  case round =>
    obtain ⟨k, hk, rfl, hB, hC⟩ := hrel
    have CC : Chg NoB w wr := C4.trans hC (fun i hi hh => by omega)
    by_cases hlt : k < F1.length
    · obtain ⟨ad, rfl, hc⟩ := (h1.chg CC (fun _ _ _ x => x)).at_ k hlt
      have sm := fun ho => BPutRel.same hlt hB hC _ rfl ho
      have pt := fun ho => BPutRel.put hlt hB hC _ rfl ho true rfl
      have cl : ∀ i, i < m → ∃ u, wr.cell? ⟨g, i, none⟩ = some u := fun i hi => ⟨_, hB.ci i (by rw [putL_length]; omega)⟩
      have hfr := fun i => bfroz hB i
      rw [l0] at sm pt
      generalize F1.getD k 0 = x at *
      have SM := Lib.hid sm
      have PT := Lib.hid pt
      clear sm pt hB hC
      by_cases x0 : 0 ≤ x
      · by_cases x1 : x < (m : Int)
        · obtain ⟨u, hu⟩ := cl x.toNat (by omega)
          have F := Lib.hid (PT.out ⟨x0, x1⟩)
          have fz := hfr x.toNat
          clear SM PT cl hfr
          go_wp2_with fail
          exact ⟨F.out, by simp [intOf]; omega⟩
        · have F := Lib.hid (SM.out (fun ho => x1 ho.2))
          clear SM PT cl hfr
          go_wp2_with fail
          exact ⟨F.out, by simp [intOf]; omega⟩
      · have F := Lib.hid (SM.out (fun ho => x0 ho.1))
        clear SM PT cl hfr
        go_wp2_with fail
        exact ⟨F.out, by simp [intOf]; omega⟩
    · obtain rfl : k = F1.length := by omega
      rw [List.take_length] at hB
      have R5 := R4.chg hC (by omega) (by omega)
      clear hC B4 C4 R4
      have l1 : (putL 1 L0 F1).length = m := by rw [putL_length]; exact l0
      generalize putL 1 L0 F1 = L1 at *
      generalize wr = w5 at *
      go_wp2_with fail
      go_loopw [16] (fun i wr2 => BPutRel w5 g L1 0 F2 i wr2) (fun i wr2 => F2.length - (intOf i).toNat)
      case atStart => exact ⟨0, by omega, rfl, hB, Chg.refl _ _⟩
      case round =>
        obtain ⟨k, hk, rfl, hB2, hC2⟩ := hrel
        have C6 : Chg NoB w wr := CC.trans hC2 (fun i hi hh => by omega)
        by_cases hlt2 : k < F2.length
        · obtain ⟨ad, rfl, hc⟩ := (h2.chg C6 (fun _ _ _ x => x)).at_ k hlt2
          have sm := fun ho => BPutRel.same hlt2 hB2 hC2 _ rfl ho
          have pt := fun ho => BPutRel.put hlt2 hB2 hC2 _ rfl ho false rfl
          have cl : ∀ i, i < m → ∃ u, wr.cell? ⟨g, i, none⟩ = some u := fun i hi => ⟨_, hB2.ci i (by rw [putL_length]; omega)⟩
          have hfr := fun i => bfroz hB2 i
          rw [l1] at sm pt
          generalize F2.getD k 0 = x at *
          have SM := Lib.hid sm
          have PT := Lib.hid pt
          clear sm pt hB2 hC2 hB
          by_cases x0 : 0 ≤ x
          · by_cases x1 : x < (m : Int)
            · obtain ⟨u, hu⟩ := cl x.toNat (by omega)
              have F := Lib.hid (PT.out ⟨x0, x1⟩)
              have fz := hfr x.toNat
              clear SM PT cl hfr
              go_wp2_with fail
              exact ⟨F.out, by simp [intOf]; omega⟩
            · have F := Lib.hid (SM.out (fun ho => x1 ho.2))
              clear SM PT cl hfr
              go_wp2_with fail
              exact ⟨F.out, by simp [intOf]; omega⟩
          · have F := Lib.hid (SM.out (fun ho => x0 ho.1))
            clear SM PT cl hfr
            go_wp2_with fail
            exact ⟨F.out, by simp [intOf]; omega⟩
        · obtain rfl : k = F2.length := by omega
          rw [List.take_length] at hB2
          have R6 := R5.chg hC2 (by omega) (by omega)
          clear hB R5 CC hC2
          have l2 : (putL 0 L1 F2).length = m := by rw [putL_length]; exact l1
          generalize putL 0 L1 F2 = L2 at *
          generalize wr = w6 at *
          clear h1 h2 l0 l1
          have infoI : (Try.prog.info? 3).map (fun i => (i.zero, i.size, i.bytes)) = some (some (.int .i64 0), 1, 8) := by kernel_rfl
          go_wp2_with fail
          go_loopw [17, 18] (fun v i wr => SeenRel L2 w6 v i wr) (fun v i wr => m - (intOf i).toNat)
          case atStart => exact ⟨0, by omega, rfl, World.ownsRow_nil w6 _ _ 1, Chg.refl _ _⟩
          case round =>
            obtain ⟨k, hk, rfl, hown, hC⟩ := hrel
            have B7 := hB2.chg hC (fun x => x)
            have R7 := R6.chg hC (fun x => x) (fun x => x)
            by_cases hlt3 : k < L2.length
            · have hci := B7.ci k hlt3
              have hq : ∀ n', Calls Try.prog 23 #[.pointer (some ⟨b, 0, none⟩), .int .i64 k] (wr.drewN n') fun e w' => e = .returned (.bool (L2.getD k 0 == 1)) ∧ w' = wr.drewN n' := fun n' => (has_any b bi L2 k _ (R7.chg ((Chg.refl NoB wr).drewN n') (fun x => x) (fun x => x))).mono (by
                rintro e w' ⟨rfl, rfl⟩
                refine ⟨?_, rfl⟩
                unfold hasB
                rw [decide_eq_true (show (0 : Int) ≤ k by omega), decide_eq_true (show (k : Int) < L2.length by omega)]
                rfl)
              have hn := idx_succ L2 k
              have hlen := idx_len L2 k
              have hC' : ∀ n, Chg NoB w6 (wr.drewN n) := fun n => hC.drewN n
              have hown' : ∀ n, (wr.drewN n).ownsRow w6.heap.size 3 1 u17 (idx L2 k).length ((idx L2 k).map (Value.int .i64)) := fun n => hown
              have HN := Lib.hid hn
              have i1 : (k : Int) < (m : Int) := by omega
              clear hn hown hC B7 R7
              by_cases hy : (L2.getD k 0 == 1) = true
              · rw [hy] at hci hq
                go_wp2_with fail
                go_quiet ((go_at_call 23; exact Calls.quiet_of_same (hq _)))
                go_wp2_with (first | (at_builtin; go_loud (refine append_one (w0 := w6) (S := NoB) rfl (.tmp 113) (.tmp 115) 32 3 rfl (.int .i64 0) 8 Try.underlying32 infoI rfl u17 _ _ (by rfl) (hC' _) (hown' _) (.int .i64 k) _ (by rfl) rfl (by omega) (by omega) ?_); intro v' w1 hown2 hC2))
                go_roundw
                case rel =>
                  refine ⟨k + 1, by omega, rfl, ?_, hC2⟩
                  rw [HN.out, if_pos hy, List.length_append, List.map_append]
                  exact hown2
                case measure => simp [intOf]; omega
              · have hy' : (L2.getD k 0 == 1) = false := Bool.eq_false_iff.mpr hy
                rw [hy'] at hci hq
                go_wp2_with fail
                go_quiet ((go_at_call 23; exact Calls.quiet_of_same (hq _)))
                go_wp2_with fail
                go_roundw
                case rel => exact ⟨k + 1, by omega, rfl, by rw [HN.out, if_neg hy, List.append_nil]; exact hown' _, hC' _⟩
                case measure => simp [intOf]; omega
            · obtain rfl : k = L2.length := by omega
              have hil := idx_len L2 L2.length
              rw [l2] at hown hil
              obtain ⟨V, cV, rfl, -, -, hrd, -⟩ := own_rd hown (by omega)
              have C7 : Chg NoB w wr := C6.trans hC (fun i hi hh => hh)
              clear hown hC C6 hB2 R6 infoI hlt3 hk
              generalize wr = w7 at *
              have q0 := fun w' h => rrun_both g m L2 o fr tt w' h (by omega)
              rw [l2] at q0
              have cnt := fun w' h => count_yes b bi L2 w' h
              rw [l2] at cnt
              have all := fun w' h => all_yes b bi L2 w' h
              unfold AllPost at all
              rw [l2] at all
              have hn1 : hasB L2 (-1) = false := by unfold hasB; rw [decide_eq_false (by omega)]; rfl
              have hn2 : hasB L2 (m : Int) = false := by unfold hasB; rw [decide_eq_false (show ¬ ((m : Int) < L2.length) by omega), Bool.false_and, Bool.and_false]
              have Q0 := Lib.hid q0
              have CNT := Lib.hid cnt
              have ALL := Lib.hid all
              clear q0 cnt all
              go_wp2_with fail
              refine (run_both b bi L2 o fr tt w7 R7).mono ?_
              rintro e w8 ⟨f, ok, rfl, s1, k8⟩
              have R8 := R7.chg k8 (fun x => x) (fun x => x)
              have B8 := B7.chg k8 (fun x => x)
              have D8 := hrd.chg k8 (fun _ _ _ x => x)
              have C8 : Chg NoB w w8 := C7.trans k8 (fun i hi hh => hh)
              clear R7 B7 hrd C7 k8
              go_wp2_with fail
              refine (Q0.out w8 B8).mono ?_
              rintro e w9 ⟨f2, ok2, rfl, s2, k9⟩
              obtain ⟨rfl, rfl⟩ := rs_unique s1 s2
              have R9 := R8.chg k9 (fun x => x) (fun x => x)
              have D9 := D8.chg k9 (fun _ _ _ x => x)
              have C9 : Chg NoB w w9 := C8.trans k9 (fun i hi hh => hh)
              clear R8 B8 D8 C8 k9 s1 s2 Q0
              go_wp2_with fail
              refine (answers _).mono ?_
              rintro e wa ⟨rfl, ka⟩
              have Ra := R9.chg ka (fun x => x) (fun x => x)
              have Da := D9.chg ka (fun _ _ _ x => x)
              have Ca : Chg NoB w wa := C9.trans ka (fun i hi hh => hh)
              clear R9 D9 C9 ka
              go_wp2_with fail
              refine (ALL.out wa Ra).mono ?_
              rintro e wb ⟨v, rfl, ho, kb⟩
              obtain ⟨V2, cW, rfl, -, -, Eb, -⟩ := own_rd ho (by omega)
              have Rb := Ra.chg kb (fun x => x) (fun x => x)
              have Db := Da.chg kb (fun _ _ _ x => x)
              have Cb : Chg NoB w wb := Ca.trans kb (fun i hi hh => hh)
              clear Ra Da Ca kb ho ALL
              generalize idx L2 m = I at *
              go_wp2_with fail
              refine (ints_any V2 V cW cV I I _ Eb Db).mono ?_
              rintro e wc ⟨rfl, kc⟩
              rw [show decide (I = I) = true from decide_eq_true rfl]
              have Rc := Rb.chg kc (fun x => x) (fun x => x)
              have Cc : Chg NoB w wc := Cb.trans kc (fun i hi hh => hh)
              clear Rb Db Cb kc Eb
              go_wp2_with fail
              refine (CNT.out wc Rc).mono ?_
              rintro e wd ⟨rfl, kd⟩
              have Rd' := Rc.chg kd (fun x => x) (fun x => x)
              have Cd : Chg NoB w wd := Cc.trans kd (fun i hi hh => hh)
              clear Rc Cc kd CNT
              go_wp2_with fail
              refine (has_any b bi L2 (-1) _ Rd').mono ?_
              rintro e we ⟨rfl, rfl⟩
              rw [hn1]
              go_wp2_with fail
              refine (has_any b bi L2 m _ Rd').mono ?_
              rintro e we ⟨rfl, rfl⟩
              rw [hn2]
              go_wp2_with fail
              go_ret
              exact ⟨rfl, Cd⟩
theorem runsPlays_row (a0 : Int) (a1 : Option Addr) (len1 cap1 : Nat) (z1 : List Int) (a2 : Option Addr) (len2 cap2 : Nat) (z2 : List Int) (a3 a4 a5 : Int) (W : World) (w0 : (Lit.int .i64 a0).wf = true) (w1 : IsRow .i64 W a1 len1 cap1 z1) (y1 : len1 * 8 ≤ 140737488351232) (w2 : IsRow .i64 W a2 len2 cap2 z2) (y2 : len2 * 8 ≤ 140737488351232) (w3 : (Lit.int .i64 a3).wf = true) (w4 : (Lit.int .i64 a4).wf = true) (w5 : (Lit.int .i64 a5).wf = true) :
    Calls Try.prog 5 #[.int .i64 a0, .slice a1 len1 cap1, .slice a2 len2 cap2, .int .i64 a3, .int .i64 a4, .int .i64 a5] W fun e w' => e = .returned (.bool true) ∧ Below W.heap.size W w' := by
  obtain ⟨h1, k1, -, -⟩ := rd_of_row w1 (by omega)
  obtain ⟨h2, k2, -, -⟩ := rd_of_row w2 (by omega)
  have := runsPlays a0 a1 a2 cap1 cap2 (z1.take len1) (z2.take len2) a3 a4 a5 W h1 h2
  rw [k1, k2] at this
  exact this.mono fun _ _ h => h.below
end Go.Proofs.Ytilameppdnmgdaa.Runs
