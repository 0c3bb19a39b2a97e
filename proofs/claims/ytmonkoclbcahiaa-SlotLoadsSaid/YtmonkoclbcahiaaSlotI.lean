/- Chapter 5: SlotBounds. -/
import Derived.Test.YtmonkoclbcahiaaSlotH
namespace Go.Proofs.Ytmonkoclbcahiaa.Slot
open Go.RowKit Go.Proofs.Ytmonkoclbcahiaa.Hp Go.Proofs.Ytmonkoclbcahiaa.By Go.Proofs.Ytmonkoclbcahiaa.Disk Go.Proofs.Ytmonkoclbcahiaa.Word Go.Proofs.Ytmonkoclbcahiaa.WordP Go.Proofs.Ytmonkoclbcahiaa.Log
set_option linter.unusedVariables false
set_option linter.unusedSimpArgs false
theorem makeK (k : Nat) (hk : k ≤ 100000) (w : World) : (Instr.makeSlice 31 (.int .i64 k) (.int .i64 k)).run Try.prog w = .ok (.slice (some ⟨w.heap.size, 0, none⟩) k k) (w.alloc (.cells (Array.replicate k (.int .u8 0)) 5)) := by
  have := run_make1 (P := Try.prog) 31 5 (.int .u8 0) 1 Try.underlying31 info8 rfl (k : Int) (by omega) (by omega) (by omega) w
  rwa [Int.toNat_natCast] at this
theorem own_nil {w : World} {base : Nat} {e : TypeId} {v : Value} {xs : List Value} (h : w.ownsRow base e 1 v 0 xs) : ∃ A c, v = .slice A 0 c := by
  rcases h.2 with ⟨rfl, h0⟩ | ⟨g, cap, cur, rfl, _⟩
  · exact ⟨none, 0, rfl⟩
  · exact ⟨_, _, rfl⟩
def BdB (w0 : World) (d : Nat) (ρ : Nat → Nat) (s : DSt) (g k : Nat) (i : Value) (wr : World) : Prop := ∃ (m : Nat) (l : List Int), m ≤ k ∧ i = .int .i64 m ∧ Buf wr g l ∧ l.length = k ∧ Bytes l ∧ DL w0 wr d ρ s
theorem bytes_set {l : List Int} (h : Bytes l) (i : Nat) (v : Int) (hv : 0 ≤ v ∧ v < 256) : Bytes (l.set i v) := fun x hx => by
  rcases List.mem_or_eq_of_mem_set hx with hx | rfl
  · exact h x hx
  · exact hv
set_option maxRecDepth 100000 in
set_option maxHeartbeats 2000000 in
theorem slotBounds (n gen : Int) (w : World) (n0 : 0 ≤ n) (n1 : n < 65536) (g0 : 0 ≤ gen) (g1 : gen < 4294967296) :
    Calls Try.prog 7 #[.int .u16 n, .int .u32 gen] w (True1 w) := by
  obtain ⟨k, hk, hnk⟩ : ∃ k : Nat, k < 1100 ∧ n % 1100 = (k : Int) := ⟨(n % 1100).toNat, by omega, by omega⟩
  have hmk := makeK k (by omega)
  go_enter Try.func7, Try.ntmps7
  go_wp2_with fail
  refine (l_new 192 (by omega) (by omega) w).mono ?_
  rintro e w1 ⟨d, ρ, rfl, h1⟩
  have hsz := h1.ch.size
  have hz : ρ w1.heap.size = 0 := by
    obtain ⟨_, _, _, _, _, _, _, hp⟩ := h1.at_
    exact hp.rz _ (Nat.le_refl _)
  obtain ⟨g, hg⟩ : ∃ g, g = w1.heap.size := ⟨_, rfl⟩
  have hB : BdB w d ρ (DSt.new 192) g k (.int .i64 0) (w1.alloc (.cells (Array.replicate k (.int .u8 0)) 5)) := ⟨0, List.replicate k 0, by omega, rfl, Buf.new w1 k g hg, by simp, bytes_zero k, h1.keep ((Chg.refl NoB w1).alloc _)⟩
  rw [← hg] at hz
  have HZ := Lib.hid (And.intro hz (show w.heap.size ≤ g by omega))
  clear h1 hz
  go_wp2_with fail
  simp only [hnk]
  rw [← hg]
  clear hg
  go_wp2_with fail
  go_loopw [7] (fun i wr => BdB w d ρ (DSt.new 192) g k i wr) (fun i wr => (k - (intOf i).toNat))
  case atStart => exact hB
  case round =>
    clear hB
    obtain ⟨m, l, hm, rfl, hb, hl, hby, hD⟩ := hrel
    by_cases hlt : m < k
    · have hc := hb.cell m (by omega)
      have hfr := hb.frz
      have nx : ∀ v, 0 ≤ v ∧ v < 256 → BdB w d ρ (DSt.new 192) g k (.int .i64 ((m : Int) + 1)) (wr.setCell ⟨g, m, none⟩ (.int .u8 v)) := fun v hv => ⟨m + 1, l.set m v, by omega, rfl, hb.set m v, by rw [List.length_set]; exact hl, bytes_set hby m v hv, hD.side (g := g) ((Chg.refl (· = g) wr).set (p := ⟨g, m, none⟩) (.inl rfl) _) HZ.out.1 HZ.out.2⟩
      have hv : 0 ≤ ((m : Int) + 1) % 256 ∧ ((m : Int) + 1) % 256 < 256 := by omega
      have F := Lib.hid (nx _ hv)
      clear nx hv hb hl hby hD
      generalize l.getD m 0 = x at *
      go_wp2_with fail
      exact ⟨F.out, by simp [intOf]; omega⟩
    · obtain rfl : m = k := by omega
      have hrd := hb.rd (by omega)
      by_cases hbig : 960 < m
      · have hl0 := load_any hD says_new
        have hbd := fun w => save_bad (some ⟨d, 0, none⟩) gen (some ⟨g, 0, none⟩) m m w (by omega) (.inr hbig)
        have H := Lib.hid hD
        have hLZ := Lib.hid load_zero
        clear hD hb hl hby hrd HZ
        go_wp2_with fail
        refine (hbd _).mono ?_
        rintro e w2 ⟨rfl, rfl⟩
        clear hbd
        go_wp2_with fail
        refine hl0.mono ?_
        rintro e w3 ⟨v, rfl, _, h3, hv, _, _⟩
        rw [hLZ.out] at hv ⊢
        obtain ⟨A, c, rfl, _⟩ := hv
        have hlo := fun w' (hc : Chg NoB w3 w') => loose_any d ρ (DSt.new 192) w' (h3.keep hc).at_
        have hll : (DSt.new 192).looseL = [] := by unfold DSt.looseL DSt.new; simp
        have HL := Lib.hid (And.intro hlo hll)
        have hch := h3.ch
        clear hl0 h3 hlo hll H hLZ
        go_wp2_with (first | ((with_reducible refine (answers5 _).mono ?_); rintro e w4 ⟨rfl, hC4⟩; have lo := HL.out.1 w4 hC4) | ((with_reducible refine lo.mono ?_); rintro e w5 ⟨v5, rfl, hown5, hC5⟩; rw [HL.out.2] at hown5; obtain ⟨A5, c5, rfl⟩ := own_nil hown5) | go_in)
        go_ret
        exact ⟨rfl, (hch.trans hC4 (fun _ _ x => x)).trans hC5 (fun _ _ x => x)⟩
      · have hdb : decide (960 < (m : Int)) = false := decide_eq_false (by omega)
        obtain ⟨q, hq2, hq⟩ : ∃ q : Nat, q < 2 ∧ (q : Int) = gen % 2 := ⟨(gen % 2).toNat, by omega, by omega⟩
        have hlo : loadOf (savedF (fun _ => List.replicate 64 0) gen l) = (gen, l) := load_saved g0 g1 (by omega) q hq2 hq (fun p hp => by rw [one_zero _ (by omega)] at hp; cases hp)
        have hsv := save_says gen (some ⟨g, 0, none⟩) m l hD says_new g0 g1 (by omega) hrd (fun _ ad e x => by
          obtain rfl := Option.some.inj e
          exact x HZ.out.1) (by omega) hby
        rw [hl] at hsv
        have hkb : KeptB wr ρ (.slice (some ⟨g, 0, none⟩) m m) l := ⟨_, m, by rw [hl], by omega, hrd, hby, fun _ ad e x => by
          obtain rfl := Option.some.inj e
          exact x HZ.out.1⟩
        have HK := Lib.hid (And.intro hkb (And.intro hlo hl))
        clear hD hb hl hby hrd HZ hkb hlo hq
        generalize savedF (fun _ => List.replicate 64 0) gen l = F at *
        go_wp2_with fail
        refine hsv.mono ?_
        rintro e w2 ⟨rfl, s2, hs2, hn2, ρ2, h2, hC2, hz2⟩
        have hkb := HK.out.1.stp hC2 hz2
        have hld := load_any h2 hs2
        have H2 := Lib.hid (And.intro hkb (And.intro (own_lt_size h2) hn2))
        clear hsv h2 hs2 hC2 hz2 hkb hn2
        go_wp2_with fail
        refine hld.mono ?_
        rintro e w3 ⟨v, rfl, hC3, h3, hv, _, _⟩
        rw [HK.out.2.1] at hv ⊢
        have hv3 := hv.kept H2.out.2.1
        have hb3 := H2.out.1.chg hC3
        obtain ⟨A5, c5, ev, _, hrd3, _⟩ := hb3
        rw [HK.out.2.2] at ev
        injection ev with ev1 ev2 ev3
        subst ev1
        subst ev3
        obtain ⟨A, c, rfl, sm⟩ := kept_same (c := m) hv3 hrd3
        rw [HK.out.2.2] at sm ⊢
        have hlo := fun w' (hc : Chg NoB w3 w') => loose_any d ρ2 s2 w' (h3.keep hc).at_
        have HL := Lib.hid (And.intro hlo H2.out.2.2)
        have hch := h3.ch
        clear hld h3 hlo hv hv3 hC3 H2 HK hrd3
        go_wp2_with (first | ((with_reducible refine (answers5 _).mono ?_); rintro e w4 ⟨rfl, hC4⟩; have q1 := sm w4 hC4) | ((with_reducible refine q1.mono ?_); rintro e w5 ⟨rfl, hC5⟩; have lo := HL.out.1 w5 (hC4.trans hC5 (fun _ _ x => x))) | ((with_reducible refine lo.mono ?_); rintro e w6 ⟨v6, rfl, hown6, hC6⟩; rw [HL.out.2] at hown6; obtain ⟨A6, c6, rfl⟩ := own_nil hown6) | go_in)
        go_ret
        exact ⟨rfl, ((hch.trans hC4 (fun _ _ x => x)).trans hC5 (fun _ _ x => x)).trans hC6 (fun _ _ x => x)⟩
theorem u16b8 {n : Int} (h : (Lit.int .u16 n).wf = true) : 0 ≤ n ∧ n < 65536 := by
  simp only [Lit.wf, Bool.and_eq_true, decide_eq_true_eq] at h
  have e1 : IntKind.u16.min = 0 := rfl
  have e2 : IntKind.u16.max = 65535 := rfl
  omega
theorem slotBounds_row (a0 a1 : Int) (W : World) (w0 : (Lit.int .u16 a0).wf = true) (w1 : (Lit.int .u32 a1).wf = true) :
    Calls Try.prog 7 #[.int .u16 a0, .int .u32 a1] W fun e w' => e = .returned (.bool true) ∧ Below W.heap.size W w' :=
  (slotBounds a0 a1 W (u16b8 w0).1 (u16b8 w0).2 (u32b8 w1).1 (u32b8 w1).2).mono fun _ _ h => h.row
end Go.Proofs.Ytmonkoclbcahiaa.Slot
