/- The statements on memory of frames (third part): RamCopies, RamOwn. -/
import Derived.Test.YtilameppdnmgdaaRamE
import Derived.Test.YtilameppdnmgdaaHpC
namespace Go.Proofs.Ytilameppdnmgdaa.Ram
open Go.RowKit Go.Proofs.Ytilameppdnmgdaa.Hp
set_option linter.unusedVariables false
set_option linter.unusedSimpArgs false
theorem copies_key (l1 l2 : List Int) (k : Nat) (h : l1.length ≤ 64) :
    rdL (upd (upd (upd (fun _ _ => 0) 0 0 l1) 1 0 (rdL (upd (fun _ _ => 0) 0 0 l1) 0 0 64)) 0 k l2) 1 0 64 = l1 ++ List.replicate (64 - l1.length) 0 := by
  rw [upd_rd_other _ _ _ _ _ _ _ (by omega)]
  have e := upd_rd_same (upd (fun _ _ => 0) 0 0 l1) 1 (rdL (upd (fun _ _ => 0) 0 0 l1) 0 0 64)
  rw [rdL_len] at e
  rw [e]
  apply List.ext_getElem
  · rw [rdL_len]; simp; omega
  · intro i h1 h2
    rw [rdL_len] at h1
    simp only [rdL, List.getElem_map, List.getElem_range, upd, List.getElem_append]
    by_cases c : i < l1.length
    · simp [c]
    · simp [c]
theorem map_rep (n : Nat) : List.replicate n (Value.int .u8 0) = (List.replicate n (0 : Int)).map (Value.int .u8) := by simp
set_option maxHeartbeats 8000000 in
theorem ramCopies (A1 A2 : Option Addr) (c1 c2 : Nat) (l1 l2 : List Int) (t : Int) (w : World) (t0 : 0 ≤ t) (t1 : t ≤ 255) (h1 : Rd w .u8 A1 l1) (h2 : Rd w .u8 A2 l2) (hn : A1 = none → c1 = 0) :
    Calls Try.prog 8 #[.slice A1 l1.length c1, .slice A2 l2.length c2, .int .u8 t] w (RetB true w) := by
  have b1 := h1.1
  have b2 := h2.1
  by_cases g : 64 < l1.length ∨ l2.length = 0 ∨ 8 < l2.length
  · by_cases g1 : 64 < l1.length
    · have d1 : decide ((64 : Int) < (l1.length : Int)) = true := by apply decide_eq_true; omega
      go_enter Try.func8, Try.ntmps8
      go_wp2_with fail
      refine (answers _).mono ?_
      rintro e w1 ⟨rfl, hC⟩
      go_wp2_with fail
      go_ret
      exact ⟨rfl, hC⟩
    have d1 : decide ((64 : Int) < (l1.length : Int)) = false := by apply decide_eq_false; omega
    by_cases g2 : l2.length = 0
    · have d2 : ((l2.length : Int) == 0) = true := by apply beq_iff_eq.mpr; omega
      clear g g2
      go_enter Try.func8, Try.ntmps8
      go_wp2_with fail
      refine (answers _).mono ?_
      rintro e w1 ⟨rfl, hC⟩
      go_wp2_with fail
      go_ret
      exact ⟨rfl, hC⟩
    have d2 : ((l2.length : Int) == 0) = false := by apply beq_eq_false_iff_ne.mpr; omega
    have d3 : decide ((8 : Int) < (l2.length : Int)) = true := by apply decide_eq_true; omega
    clear g g2 g1
    go_enter Try.func8, Try.ntmps8
    go_wp2_with fail
    refine (answers _).mono ?_
    rintro e w1 ⟨rfl, hC⟩
    go_wp2_with fail
    go_ret
    exact ⟨rfl, hC⟩
  have l164 : l1.length ≤ 64 := by omega
  have l28 : l2.length ≤ 8 := by omega
  have d1 : decide ((64 : Int) < (l1.length : Int)) = false := by apply decide_eq_false; omega
  have d2 : ((l2.length : Int) == 0) = false := by apply beq_eq_false_iff_ne.mpr; omega
  have d3 : decide ((8 : Int) < (l2.length : Int)) = false := by apply decide_eq_false; omega
  obtain ⟨k, hk⟩ := Int.eq_ofNat_of_zero_le (show 0 ≤ t % 56 by omega)
  have hk56 : k < 56 := by omega
  clear g
  go_enter Try.func8, Try.ntmps8
  go_wp2_with fail
  refine (new_any 2 _).mono ?_
  rintro e w1 ⟨p, bl, rfl, hR1, hp, hbl, C1⟩
  rw [show clampF 2 = 2 from rfl] at hR1
  have L1 : Rd w1 .u8 A1 l1 := h1.chg C1 (fun _ _ _ x => x)
  go_wp2_with fail
  refine (write_ok p bl 2 _ _ 0 0 A1 c1 l1 _ hR1 (by omega) (by omega) rfl L1).mono ?_
  rintro e w2 ⟨rfl, hR2, k2⟩
  have C2 : Chg NoB w w2 := C1.trans k2 (fun i hi hh => by subst hh; omega)
  clear k2 C1 L1 hR1
  go_wp2_with fail
  have hc := copy_any p bl 2 (upd (fun _ _ => 0) 0 0 l1) (fun _ => false) 0 1 w2 hR2
  have e1 : copyE 2 (fun _ => false) 0 1 = 0 := by decide
  unfold CopyB at hc
  rw [e1, if_pos rfl] at hc
  clear e1
  refine hc.mono ?_
  rintro e w3 ⟨rfl, hR3, k3⟩
  have C3 : Chg NoB w w3 := C2.trans k3 (fun i hi hh => by subst hh; omega)
  have L3 : Rd w3 .u8 A2 l2 := h2.chg C3 (fun _ _ _ x => x)
  clear k3 C2 hc hR2
  go_wp2_with fail
  refine (write_ok p bl 2 _ _ 0 k A2 c2 l2 _ hR3 (by omega) (by omega) rfl L3).mono ?_
  rintro e w4 ⟨rfl, hR4, k4⟩
  have C4 : Chg NoB w w4 := C3.trans k4 (fun i hi hh => by subst hh; omega)
  have key := copies_key l1 l2 k l164
  rw [show ((1 : Int).toNat) = 1 from rfl, show ((0 : Int).toNat) = 0 from rfl] at hR4
  generalize upd (upd (upd (fun _ _ => 0) 0 0 l1) 1 0 (rdL (upd (fun _ _ => 0) 0 0 l1) 0 0 64)) 0 k l2 = B at *
  have KEY := Lib.hid key
  clear k4 C3 L3 hR3 key
  go_wp2_with fail
  refine (read_ok p bl 2 B _ 1 0 64 _ hR4 (by omega) (by omega) rfl).mono ?_
  rintro e w5 ⟨v, rfl, hown, k5⟩
  rw [KEY.out] at hown
  have C5 : Chg NoB w w5 := C4.trans k5 (fun i hi hh => hh)
  obtain ⟨V, vc, rfl, -, -, hrd5, -⟩ := own_rd hown (by simp; omega)
  have L5 : Rd w5 .u8 A1 l1 := h1.chg C5 (fun _ _ _ x => x)
  clear k5 C4 hR4 hown
  have hown0 : (w5.alloc (.cells #[] 5)).ownsRow w5.heap.size 5 1 (.slice (some ⟨w5.heap.size, 0, none⟩) 0 0) 0 [] := World.ownsRow_made w5 _ 0 (Nat.le_refl _) (by unfold maxLen; omega) rfl
  have hC0 : Chg NoB w5 (w5.alloc (.cells #[] 5)) := (Chg.refl _ _).alloc _
  have h0' : Rd (w5.alloc (.cells #[] 5)) .u8 A1 l1 := L5.chg hC0 (fun _ _ _ x => x)
  have hll : (l1.map (Value.int .u8)).length = l1.length := List.length_map ..
  have hx : ∀ a : Act, a.eval (.tmp 44) = .slice A1 l1.length c1 → a.eval (.tmp 44) = .slice A1 (l1.map (Value.int .u8)).length c1 := fun a e => by rw [hll]; exact e
  have HX := Lib.hid hx
  clear hx
  have hsub : (64 : Int) - (l1.length : Int) = ((64 - l1.length : Nat) : Int) := by omega
  have hx2 : ∀ a : Act, a.eval (.tmp 48) = .int .i64 ((64 : Int) - (l1.length : Int)) → a.eval (.tmp 48) = .int .i64 ((64 - l1.length : Nat) : Int) := fun a e => by rw [← hsub]; exact e
  have HX2 := Lib.hid hx2
  clear hx2 hsub
  go_wp2_with (first | (with_reducible refine append_src (w0 := w5) (S := NoB) rfl (.tmp 43) (.tmp 44) 22 5 rfl (.int .u8 0) 1 Try.underlying22 info8 rfl (.slice (some ⟨w5.heap.size, 0, none⟩) 0 0) 0 [] rfl hC0 hown0 (l1.map (Value.int .u8)) A1 c1 (HX.out _ rfl) hn (rd_src h0') (one_u8 l1) (by omega) (by omega) ?_; intro v6 w6 hown6 hC6; rw [List.nil_append, Nat.zero_add, hll] at hown6) | (with_reducible refine append_zeros (w0 := w5) (S := NoB) rfl (.tmp 45) (.tmp 48) 22 3 5 rfl (.int .u8 0) 1 .i64 .i64 Try.underlying22 Try.underlying3 info8 rfl rfl v6 l1.length (l1.map (Value.int .u8)) rfl hC6 hown6 (64 - l1.length) (HX2.out _ rfl) (by omega) (by omega) ?_; intro v7 w7 hown7 hC7))
  have hv7 : l1.map (Value.int .u8) ++ List.replicate (64 - l1.length) (Value.int .u8 0) = (l1 ++ List.replicate (64 - l1.length) 0).map (Value.int .u8) := by rw [List.map_append, map_rep]
  rw [hv7] at hown7
  have hlen7 : (l1 ++ List.replicate (64 - l1.length) (0 : Int)).length = l1.length + (64 - l1.length) := by simp
  obtain ⟨X, xc, rfl, -, -, hrd7, -⟩ := own_rd hown7 (by omega)
  have C7 : Chg NoB w w7 := C5.trans hC7 (fun i hi hh => hh)
  have hrd57 := hrd5.chg hC7 (fun _ _ _ x => x)
  have hlen7' : (l1 ++ List.replicate (64 - l1.length) (0 : Int)).length = 64 := by omega
  clear hv7 hown7 hown6 hC6 C5 hrd5 hown0 hC0 h0' L5 hlen7
  generalize l1 ++ List.replicate (64 - l1.length) (0 : Int) = R at *
  have HL := Lib.hid hlen7'
  clear hlen7'
  refine (answers _).mono ?_
  rintro e w8 ⟨rfl, k8⟩
  have C8 : Chg NoB w w8 := C7.trans k8 (fun i hi hh => hh)
  have r5 := hrd57.chg k8 (fun _ _ _ x => x)
  have r7 := hrd7.chg k8 (fun _ _ _ x => x)
  clear k8 C7 hrd57 hrd7
  go_wp2_with fail
  have hs := same_any V X vc xc R R _ r5 r7
  rw [HL.out] at hs
  refine hs.mono ?_
  rintro e w9 ⟨rfl, k9⟩
  rw [show decide (R = R) = true from decide_eq_true rfl]
  have C9 : Chg NoB w w9 := C8.trans k9 (fun i hi hh => hh)
  go_wp2_with fail
  go_ret
  exact ⟨rfl, C9⟩
theorem row_nil {k : IntKind} {w : World} {a : Option Addr} {len cap : Nat} {zs : List Int} (h : IsRow k w a len cap zs) : a = none → cap = 0 := by
  intro e
  rcases h with ⟨_, _, h, _⟩ | ⟨x, h, _⟩
  · exact h
  · rw [h] at e; cases e
theorem ramCopies_row (a0 : Option Addr) (len0 cap0 : Nat) (z0 : List Int) (a1 : Option Addr) (len1 cap1 : Nat) (z1 : List Int) (a2 : Int) (W : World) (w0 : IsRow .u8 W a0 len0 cap0 z0) (y0 : len0 * 1 ≤ 140737488351232) (w1 : IsRow .u8 W a1 len1 cap1 z1) (y1 : len1 * 1 ≤ 140737488351232) (w2 : (Lit.int .u8 a2).wf = true) :
    Calls Try.prog 8 #[.slice a0 len0 cap0, .slice a1 len1 cap1, .int .u8 a2] W fun e w' => e = .returned (.bool true) ∧ Below W.heap.size W w' := by
  obtain ⟨h1, h2, -, -⟩ := rd_of_row w0 (by omega)
  obtain ⟨h3, h4, -, -⟩ := rd_of_row w1 (by omega)
  have b2 := bounds_u8 w2
  have := ramCopies a0 a1 cap0 cap1 (z0.take len0) (z1.take len1) a2 W b2.1 b2.2 h1 h3 (row_nil w0)
  rw [h2, h4] at this
  exact this.mono fun _ _ h => h.below
end Go.Proofs.Ytilameppdnmgdaa.Ram
