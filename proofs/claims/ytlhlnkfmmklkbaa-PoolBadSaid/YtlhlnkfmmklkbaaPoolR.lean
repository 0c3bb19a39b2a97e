/- Frames and what they are used for: PoolIsolated, PoolTwice. -/
import Derived.Test.YtlhlnkfmmklkbaaPoolQ
namespace Go.Proofs.Ytlhlnkfmmklkbaa.Pool
open Go.RowKit Go.Proofs.Ytlhlnkfmmklkbaa.Hp Go.Proofs.Ytlhlnkfmmklkbaa.Runs
set_option linter.unusedVariables false
set_option linter.unusedSimpArgs false
/-- one section c on line in a zone, its frames of some numbers used -/
structure One (S : PS) (c : Nat) (z : Int) (u : Int) (Q : Nat → Prop) : Prop where
  u : ∀ f, (c * 32 ≤ f ∧ f < c * 32 + 32 → (Q f → S.U f = u) ∧ (¬ Q f → S.U f = 1)) ∧ (¬ (c * 32 ≤ f ∧ f < c * 32 + 32) → S.U f = 0)
  z : ∀ s, S.Z s = if s = c then z else 0
  i : ∀ s, S.I s = false
theorem one_start (c : Nat) (hc : c < 32) (z : Int) (hz : z = 2 ∨ z = 3) (u : Int) (Q : Nat → Prop) (hQ : ∀ f, c * 32 ≤ f ∧ f < c * 32 + 32 → ¬ Q f) : PS.new.onE c z = 0 ∧ One (PS.new.online c z []) c z u Q := by
  obtain ⟨e1, e2⟩ := online_ok (S := PS.new) (s := c) (z := z) ⟨by omega, by omega⟩ hz rfl []
  refine ⟨e1, ?_⟩
  rw [e2]
  have hU := onU_nil PS.new.U (c * 32) 32 (fun f => by show (0 : Int) ≠ 6; omega)
  refine ⟨fun f => ⟨fun h => ⟨fun hq => absurd hq (hQ f h), fun _ => ?_⟩, fun h => ?_⟩, fun s => ?_, fun s => ?_⟩
  · show onU PS.new.U (Int.toNat c * 32) [] 32 f = 1
    rw [Int.toNat_natCast, hU, if_pos h]
  · show onU PS.new.U (Int.toNat c * 32) [] 32 f = 0
    rw [Int.toNat_natCast, hU, if_neg h]; rfl
  · show upd (fun _ => 0) (Int.toNat c) z s = _
    rw [Int.toNat_natCast]; rfl
  · show updB (fun _ => false) (Int.toNat c) false s = false
    unfold updB; split <;> rfl
theorem one_good {S : PS} {c : Nat} {z u : Int} {Q : Nat → Prop} (h : One S c z u Q) (hu : u ≠ 1) (hc : c < 32) (hz : z ≠ 0) (f : Nat) : Good S.U S.Z S.I z 1 f ↔ ((c * 32 ≤ f ∧ f < c * 32 + 32) ∧ ¬ Q f) := by
  constructor
  · rintro ⟨h1, h2, h3, h4, h5⟩
    have h6 := h5 0 (by omega)
    rw [Nat.add_zero] at h6
    by_cases e : c * 32 ≤ f ∧ f < c * 32 + 32
    · refine ⟨e, fun hq => ?_⟩
      rw [((h.u f).1 e).1 hq] at h6; exact hu h6
    · rw [(h.u f).2 e] at h6; omega
  · rintro ⟨h1, h2⟩
    refine ⟨Nat.mod_one f, by omega, ?_, h.i _, fun k hk => ?_⟩
    · rw [h.z, if_pos (by omega)]
    · obtain rfl : k = 0 := by omega
      rw [Nat.add_zero]; exact ((h.u f).1 h1).2 h2
theorem one_none {S : PS} {c : Nat} {z u : Int} {Q : Nat → Prop} (h : One S c z u Q) (y : Int) (hy : y ≠ z) (hy0 : y ≠ 0) (s : Nat) : NoneG S.U S.Z S.I y s := by
  rintro g ⟨h1, h2, h3, h4, h5⟩
  rw [h.z] at h3
  split at h3
  · exact hy h3.symm
  · exact hy0 h3.symm
theorem one_pick3 {S : PS} {c : Nat} {u : Int} {Q : Nat → Prop} (h : One S c 3 u Q) (hu : u ≠ 1) (hc : c < 32) (f : Nat) (h1 : c * 32 ≤ f ∧ f < c * 32 + 32) (h2 : ¬ Q f) (h3 : ∀ g, c * 32 ≤ g → g < f → Q g) : S.pick 0 true = some f :=
  pick_three S 0 f (first_some S 3 1 f (by omega) ⟨(one_good h hu hc (by omega) f).mpr ⟨h1, h2⟩, fun g hg hG => ((one_good h hu hc (by omega) g).mp hG).2 (h3 g ((one_good h hu hc (by omega) g).mp hG).1.1 hg)⟩)
theorem one_pick2 {S : PS} {c : Nat} {u : Int} {Q : Nat → Prop} (h : One S c 2 u Q) (hu : u ≠ 1) (hc : c < 32) (f : Nat) (h1 : c * 32 ≤ f ∧ f < c * 32 + 32) (h2 : ¬ Q f) (h3 : ∀ g, c * 32 ≤ g → g < f → Q g) : S.pick 0 false = some f := by
  rw [pick_no]
  exact first_some S 2 1 f (by omega) ⟨(one_good h hu hc (by omega) f).mpr ⟨h1, h2⟩, fun g hg hG => ((one_good h hu hc (by omega) g).mp hG).2 (h3 g ((one_good h hu hc (by omega) g).mp hG).1.1 hg)⟩
theorem one_more {S : PS} {c : Nat} {z u : Int} {Q Q' : Nat → Prop} (h : One S c z u Q) (f : Nat) (h1 : c * 32 ≤ f ∧ f < c * 32 + 32) (hq : ∀ g, Q' g ↔ (Q g ∨ g = f)) : One { S with U := allocU S.U f 1 u } c z u Q' := by
  refine ⟨fun g => ⟨fun hg => ?_, fun hg => ?_⟩, h.z, h.i⟩
  · show (Q' g → allocU S.U f 1 u g = u) ∧ (¬ Q' g → allocU S.U f 1 u g = 1)
    unfold allocU
    by_cases e : g = f
    · subst e
      rw [if_pos (by omega)]
      exact ⟨fun _ => rfl, fun x => absurd ((hq g).mpr (.inr rfl)) x⟩
    · rw [if_neg (by omega)]
      exact ⟨fun x => ((h.u g).1 hg).1 (((hq g).mp x).elim id (fun y => absurd y e)), fun x => ((h.u g).1 hg).2 (fun y => x ((hq g).mpr (.inl y)))⟩
  · show allocU S.U f 1 u g = 0
    unfold allocU
    rw [if_neg (by omega)]
    exact (h.u g).2 hg
theorem one_free {S : PS} {c : Nat} {z u : Int} {Q Q' : Nat → Prop} (h : One S c z u Q) (hu : 2 ≤ u ∧ u ≤ 5) (hc : c < 32) (f : Nat) (h1 : c * 32 ≤ f ∧ f < c * 32 + 32) (hf : Q f) (hq : ∀ g, Q' g ↔ (Q g ∧ g ≠ f)) : S.freeB f = true ∧ One (S.free f) c z u Q' := by
  have hb : S.freeB f = true := by
    unfold PS.freeB PS.use useD
    rw [if_pos ⟨by omega, by omega⟩, Int.toNat_natCast, ((h.u f).1 h1).1 hf]
    exact decide_eq_true hu
  refine ⟨hb, ?_⟩
  unfold PS.free
  rw [if_pos hb]
  refine ⟨fun g => ⟨fun hg => ?_, fun hg => ?_⟩, h.z, h.i⟩
  · show (Q' g → upd S.U (Int.toNat f) 1 g = u) ∧ (¬ Q' g → upd S.U (Int.toNat f) 1 g = 1)
    rw [Int.toNat_natCast]
    unfold upd
    by_cases e : g = f
    · subst e
      rw [if_pos rfl]
      exact ⟨fun x => absurd rfl ((hq g).mp x).2, fun _ => rfl⟩
    · rw [if_neg e]
      exact ⟨fun x => ((h.u g).1 hg).1 ((hq g).mp x).1, fun x => ((h.u g).1 hg).2 (fun y => x ((hq g).mpr ⟨y, e⟩))⟩
  · show upd S.U (Int.toNat f) 1 g = 0
    rw [Int.toNat_natCast]
    unfold upd
    rw [if_neg (by omega)]
    exact (h.u g).2 hg
def IsoRel (w0 : World) (p b bi : Nat) (i : Value) (wr : World) : Prop := ∃ (k : Nat) (S : PS), k ≤ 32 ∧ i = .int .i64 k ∧ PL w0 wr p b bi S ∧ One S 3 3 3 (fun f => f < 96 + k)
theorem one_step {S : PS} {k : Nat} (hk : k < 32) (h : One S 3 3 3 (fun f => f < 96 + k)) : S.allocE 3 0 true = 0 ∧ S.allocF 3 0 true = 96 + k ∧ One (S.alloc 3 0 true) 3 3 3 (fun f => f < 96 + (k + 1)) := by
  have hp := one_pick3 h (by decide) (by omega) (96 + k) (by omega) (by omega) (fun g _ hg => hg)
  obtain ⟨h1, h2, h3⟩ := alloc_some (u := 3) (by decide) hp
  exact ⟨h1, h2, by rw [h3]; exact one_more h (96 + k) (by omega) (fun g => by omega)⟩
/-- behind a frame's free, in a section that is isolated: nothing is given; when it is not any more, that frame -/
theorem iso_end {S : PS} {k : Nat} (hk0 : 0 < k) (hk : k ≤ 32) (h : One S 3 3 3 (fun f => f < 96 + k)) : S.isoB 3 = true ∧ (S.iso 3 true).freeB 96 = true ∧ ((S.iso 3 true).free 96).allocE 3 0 true = 4 ∧ ((S.iso 3 true).free 96).allocF 3 0 true = 0 ∧ ((S.iso 3 true).free 96).alloc 3 0 true = (S.iso 3 true).free 96 ∧
    ((S.iso 3 true).free 96).isoB 3 = true ∧ (((S.iso 3 true).free 96).iso 3 false).allocE 3 0 true = 0 ∧ (((S.iso 3 true).free 96).iso 3 false).allocF 3 0 true = 96 ∧ ((((S.iso 3 true).free 96).iso 3 false).alloc 3 0 true).isoB 4 = false := by
  have hz : S.zone 3 = 3 := by
    show S.Z 3 = 3
    rw [h.z]; rfl
  have b1 : S.isoB 3 = true := decide_eq_true (by rw [hz]; decide)
  have e1 : S.iso 3 true = { S with I := updB S.I 3 true } := by unfold PS.iso; rw [if_pos b1]; rfl
  have h96 : S.U 96 = 3 := ((h.u 96).1 (by omega)).1 (by omega)
  have b2 : ({ S with I := updB S.I 3 true } : PS).freeB 96 = true := by
    unfold PS.freeB
    rw [show ({ S with I := updB S.I 3 true } : PS).use 96 = S.U 96 from rfl, h96]
    decide
  have e2 : ({ S with I := updB S.I 3 true } : PS).free 96 = ⟨upd S.U 96 1, S.Z, updB S.I 3 true⟩ := by unfold PS.free; rw [if_pos b2]; rfl
  have hG : ∀ y : Int, y = 2 ∨ y = 3 → NoneG (upd S.U 96 1) S.Z (updB S.I 3 true) y 1 := by
    rintro y hy g ⟨h1, h2, h3, h4, h5⟩
    rw [h.z] at h3
    by_cases e : g / 32 = 3
    · rw [e] at h4; cases h4
    · rw [if_neg e] at h3; omega
  have p3 : (⟨upd S.U 96 1, S.Z, updB S.I 3 true⟩ : PS).pick 0 true = none := by
    rw [pick_two _ 0 (first_none _ _ _ (hG 3 (.inr rfl)))]
    exact first_none _ _ _ (hG 2 (.inl rfl))
  obtain ⟨a1, a2, a3⟩ := alloc_full (u := 3) (by decide) p3
  have b3 : (⟨upd S.U 96 1, S.Z, updB S.I 3 true⟩ : PS).isoB 3 = true := b1
  have e3 : (⟨upd S.U 96 1, S.Z, updB S.I 3 true⟩ : PS).iso 3 false = ⟨upd S.U 96 1, S.Z, updB (updB S.I 3 true) 3 false⟩ := by unfold PS.iso; rw [if_pos b3]; rfl
  have o4 : One ⟨upd S.U 96 1, S.Z, updB (updB S.I 3 true) 3 false⟩ 3 3 3 (fun f => f < 96 + k ∧ f ≠ 96) := by
    have := (one_free h (by decide) (by omega) 96 (by omega) (by omega) (Q' := fun f => f < 96 + k ∧ f ≠ 96) (fun g => Iff.rfl)).2
    have b2' : S.freeB (96 : Nat) = true := b2
    unfold PS.free at this
    rw [if_pos b2'] at this
    refine ⟨this.u, this.z, fun s => ?_⟩
    show updB (updB S.I 3 true) 3 false s = false
    unfold updB
    by_cases c : s = 3
    · rw [if_pos c]
    · rw [if_neg c, if_neg c]; exact h.i s
  have p4 := one_pick3 o4 (by decide) (by omega) 96 (by omega) (fun x => x.2 rfl) (fun g h1 h2 => by omega)
  obtain ⟨c1, c2, c3⟩ := alloc_some (u := 3) (by decide) p4
  rw [e1, e2, e3]
  refine ⟨b1, b2, a1, a2, a3, b3, c1, c2, ?_⟩
  rw [c3]
  refine decide_eq_false (fun x => x ?_)
  show S.Z 4 = 0
  rw [h.z]; rfl
set_option maxHeartbeats 1000000 in
theorem poolIsolated (n : Int) (w : World) (h0 : 0 ≤ n) (h1 : n ≤ 255) : Calls Try.prog 6 #[.int .u8 n] w (True1 w) := by
  obtain ⟨t1, t2⟩ := one_start 3 (by omega) 3 (.inr rfl) 3 (fun f => f < 96 + 0) (fun f hf => by omega)
  rw [show ((3 : Nat) : Int) = 3 from rfl] at t1 t2
  have HT := Lib.hid t2
  clear t2
  go_enter Try.func6, Try.ntmps6
  go_wp2_with fail
  refine (l_new w).mono ?_
  rintro e w1 ⟨p, b, bi, rfl, h⟩
  have hon := l_online0 3 3 h
  rw [t1] at hon
  clear h t1
  go_wp2_with fail
  refine hon.mono ?_
  rintro e w2 ⟨rfl, h⟩
  clear hon
  generalize PS.new.online 3 3 [] = S0 at *
  go_wp2_with fail
  obtain ⟨kk, hkk⟩ := Int.eq_ofNat_of_zero_le (show 0 ≤ n % 32 by omega)
  have hk32 : kk < 32 := by omega
  rw [hkk]
  clear hkk
  go_loopw [5] (fun i wr => IsoRel w p b bi i wr) (fun i wr => (kk + 1 - intOf i).toNat)
  case atStart => exact ⟨0, S0, by omega, rfl, h, HT.out⟩
  case round =>
    obtain ⟨k, S, hk, rfl, h, hT⟩ := hrel
    by_cases hlt : k < kk + 1
    · have hal := l_alloc 3 0 true h
      obtain ⟨g1, g2, g3⟩ := one_step (by omega) hT
      have nx : ∀ w', PL w w' p b bi (S.alloc 3 0 true) → IsoRel w p b bi (.int .i64 ((k : Int) + 1)) w' := fun w' h1 => ⟨k + 1, _, by omega, rfl, h1, g3⟩
      have NX := Lib.hid nx
      rw [g1, g2] at hal
      clear nx h g1 g2 g3 hT
      go_wp2_with fail
      refine hal.mono ?_
      rintro e w4 ⟨rfl, h⟩
      have N := NX.out w4 h
      clear hal h NX
      go_wp2_with fail
      go_roundw
      case rel => exact N
      case measure => simp [intOf]; omega
    · have HE := Lib.hid (iso_end (by omega) hk hT)
      have hi := l_iso 3 true h
      rw [HE.out.1] at hi
      clear hT h
      go_wp2_with fail
      refine hi.mono ?_
      rintro e w5 ⟨rfl, h⟩
      clear hi
      have hf := l_free 96 h
      rw [HE.out.2.1] at hf
      clear h
      go_wp2_with fail
      refine hf.mono ?_
      rintro e w6 ⟨rfl, h⟩
      clear hf
      have ha := l_alloc 3 0 true h
      rw [HE.out.2.2.1, HE.out.2.2.2.1, HE.out.2.2.2.2.1] at ha
      clear h
      go_wp2_with fail
      refine ha.mono ?_
      rintro e w7 ⟨rfl, h⟩
      clear ha
      have hi := l_iso 3 false h
      rw [HE.out.2.2.2.2.2.1] at hi
      clear h
      go_wp2_with fail
      refine hi.mono ?_
      rintro e w8 ⟨rfl, h⟩
      clear hi
      have ha := l_alloc 3 0 true h
      rw [HE.out.2.2.2.2.2.2.1, HE.out.2.2.2.2.2.2.2.1] at ha
      clear h
      go_wp2_with fail
      refine ha.mono ?_
      rintro e w9 ⟨rfl, h⟩
      clear ha
      go_wp2_with fail
      refine (answers_any w9).mono ?_
      rintro e w10 ⟨rfl, hC⟩
      have h := h.keep hC
      have hi := l_iso 4 true h
      rw [HE.out.2.2.2.2.2.2.2.2] at hi
      clear h hC
      go_wp2_with fail
      refine hi.mono ?_
      rintro e w11 ⟨rfl, h⟩
      have fin : True1 w (.returned (.bool true)) w11 := ⟨rfl, h.ch⟩
      clear hi h
      go_wp2_with fail
      go_ret
      exact fin
theorem poolIsolated_row (n : Int) (W : World) (h : (Lit.int .u8 n).wf = true) : Calls Try.prog 6 #[.int .u8 n] W fun e W' => e = .returned (.bool true) ∧ Below W.heap.size W W' :=
  (poolIsolated n W (u8_bounds h).1 (u8_bounds h).2).mono fun _ _ h => h.row
end Go.Proofs.Ytlhlnkfmmklkbaa.Pool
