/- TreeNone: a tree that is none, or of none; a table that is poisoned. -/
import Derived.Test.YtimdojkhdneecaaTreeAa
namespace Go.Proofs.Ytimdojkhdneecaa.Tree
open Go.RowKit Go.Proofs.Ytimdojkhdneecaa.Hp Go.Proofs.Ytimdojkhdneecaa.Ram Go.Proofs.Ytimdojkhdneecaa.Word Go.Proofs.Ytimdojkhdneecaa.WordP Go.Proofs.Ytimdojkhdneecaa.Pool
set_option linter.unusedVariables false
set_option linter.unusedSimpArgs false
theorem pl_base {w0 wa w : World} {p b bi : Nat} {S : PS} (h : PL wa w p b bi S) (hc : Chg NoB w0 wa) : PL w0 w p b bi S :=
  ⟨h.at_, hc.trans h.ch (fun _ _ x => x), Nat.le_trans hc.size h.lp, Nat.le_trans hc.size h.lb, Nat.le_trans hc.size h.li⟩
/-- no frame, no tree -/
def NoTree (w0 w : World) (pm bl p b bi : Nat) (S : PS) (e : Ending) (w' : World) : Prop := e = .returned (.tuple #[.pointer none, .int .i64 4]) ∧ PL w0 w' p b bi S ∧ RRam w' pm bl 1024 (fun _ _ => 0) (fun _ => false)
theorem new_none {w0 wa w : World} {pm bl p b bi p2 b2 bi2 : Nat} {S : PS} (h1 : PL w0 wa p b bi S) (hc : Chg NoB wa w) (h2 : PL wa w p2 b2 bi2 PS.new) (hr : RRam wa pm bl 1024 (fun _ _ => 0) (fun _ => false)) (lo : w0.heap.size ≤ pm ∧ w0.heap.size ≤ bl) (hd : pm ≠ p ∧ pm ≠ bi ∧ pm ≠ b ∧ bl ≠ p ∧ bl ≠ bi ∧ bl ≠ b) :
    Calls Try.prog 9 #[.pointer (some ⟨pm, 0, none⟩), .pointer (some ⟨p2, 0, none⟩)] w (NoTree w0 w pm bl p b bi S) := by
  have l0 := blt h1.at_.fr.st
  have l1 := blt h1.at_.fr.xs
  obtain ⟨C, l3, _⟩ := h1.at_.st
  have l3 := blt l3
  have l4 := blt hr.st
  obtain ⟨C2, l5, _⟩ := hr.xs
  have l5 := blt l5
  have k1 := h2.lp
  have k2 := h2.lb
  have k3 := h2.li
  refine (tnew_any (pl_base h2 h1.ch) (hr.chg hc (fun x => x) (fun x => x)) (fun _ _ => ⟨Int.le_refl _, by decide⟩) lo ⟨by omega, by omega, by omega, by omega, by omega, by omega⟩).mono ?_
  rintro e w' ⟨hC, ⟨t, f, ov', hf, hu, _⟩ | ⟨rfl, _, hr', _⟩⟩
  · exact absurd (show PS.new.U f = 0 from rfl) (by rw [hu]; decide)
  · have h1' := h1.keep hc
    refine ⟨rfl, ⟨h1'.at_.chg hC (fun x => ?_) (fun x => ?_) (fun x => ?_), h1'.ch.trans hC (fun i hi x => ?_), h1'.lp, h1'.lb, h1'.li⟩, hr'⟩
    · rcases x with x | x | x
      · omega
      · omega
      · exact hd.2.2.2.1 x.symm
    · rcases x with x | x | x
      · omega
      · omega
      · exact hd.2.2.2.2.2 x.symm
    · rcases x with x | x | x
      · omega
      · omega
      · exact hd.2.2.2.2.1 x.symm
    · have := h1.ch.size
      rcases x with x | x | x
      · exact absurd hi (by omega)
      · exact absurd hi (by omega)
      · exact absurd hi (by omega)
def OneTab (w : World) (f : Nat) (e : Ending) (w' : World) : Prop := ∃ g c, e = .returned (.slice (some ⟨g, 0, none⟩) 1 c) ∧ w'.cell? ⟨g, 0, none⟩ = some (.int .i64 (f : Int)) ∧ Chg NoB w w'
theorem one_tab {w0 w : World} {pm bl p b bi t : Nat} {S : PS} {B : Nat → Nat → Int} {root f : Nat} {ov : Value} (h : TL w0 w pm bl p b bi t S B root [f] ov) : Calls Try.prog 11 #[.pointer (some ⟨t, 0, none⟩)] w (OneTab w f) := by
  refine (tables_any h (by simp)).mono ?_
  rintro e w' ⟨v, rfl, hrow, hc⟩
  have es : sortN [f] = [f] := by unfold sortN; simp
  rw [es, show [f].length = 1 from rfl] at hrow
  obtain ⟨g, c, rfl, _⟩ := own_pos hrow (by decide)
  exact ⟨g, c, rfl, by rw [hrow.cellAt 0 (by decide)]; rfl, hc⟩
set_option maxRecDepth 100000 in
set_option maxHeartbeats 4000000 in
theorem treeNone (a : Int) (w : World) (a0 : 0 ≤ a) (a1 : a ≤ 65535) : Calls Try.prog 6 #[.int .u16 a] w (True1 w) := by
  obtain ⟨X, hX, ta, ta2, ta3, ta4⟩ := rem_page a a0 a1
  have c0 : IntKind.i64.wrap a = a := IntWalk.i64_in _ ⟨by omega, by omega⟩
  have hg := get_may a 1 (by decide) (may_nil a (w.alloc (.cells #[.int .i64 0, .int .i64 0, .bool false] 33)) |>.mono fun _ _ x => x)
  clear a0 a1
  go_enter Try.func6, Try.ntmps6
  go_wp2_with fail
  refine hg.mono ?_
  rintro e w1 ⟨rfl, hC1⟩
  obtain ⟨W, hW⟩ : ∃ W, W = w1.alloc (.cells #[.int .i64 0, .int .i64 0, .bool false] 33) := ⟨_, rfl⟩
  have bx : Blk W w1.heap.size #[.int .i64 0, .int .i64 0, .bool false] 33 := by rw [hW]; exact bnew w1 _
  have cW : Chg NoB w W := by rw [hW]; exact hC1.alloc _
  have hpa := parts_any 1 (by decide) W
  rw [show ((1 : Nat) : Int) = 1 from rfl] at hpa
  have HX := Lib.hid (And.intro bx cW)
  have sx : w1.heap.size < W.heap.size := by rw [hW]; simp
  have HW := Lib.hid hW
  clear hg hC1 bx cW hW
  go_wp2_with fail
  rw [← HW.out]
  refine hpa.mono ?_
  rintro e w3 ⟨pm, bl, p, b, bi, rfl, hP, hR, hlo, hd⟩
  have HP := Lib.hid (And.intro hP (And.intro hR (And.intro hlo hd)))
  have hnp := l_new w3
  clear hpa hP hR hlo hd
  go_wp2_with fail
  refine (new_nil1 _ _).mono ?_
  rintro e w4 ⟨rfl, rfl⟩
  go_wp2_with fail
  refine (new_nil2 _ _).mono ?_
  rintro e w4 ⟨rfl, rfl⟩
  go_wp2_with fail
  refine hnp.mono ?_
  rintro e w4 ⟨p2, b2, bi2, rfl, hP2⟩
  have hnn := new_none HP.out.1 hP2.ch hP2 HP.out.2.1 HP.out.2.2.1 HP.out.2.2.2
  clear hnp hP2
  go_wp2_with fail
  refine hnn.mono ?_
  rintro e w5 ⟨rfl, hP5, hR5⟩
  have hnw := new_part ⟨by decide, by decide⟩ hP5 hR5 HP.out.2.2.1 HP.out.2.2.2
  clear hnn hP5 hR5
  go_wp2_with fail
  refine (close_nil _).mono ?_
  rintro e w6 ⟨rfl, rfl⟩
  go_wp2_with fail
  refine hnw.mono ?_
  rintro e w6 ⟨t, f, S, B, ov, s, rfl, hL, _, hown, _⟩
  have hT := hL.ti.tl
  obtain ⟨hf1, _⟩ := hL.ti.at_ hL.ti.rt
  rw [hown] at hT
  have htb := one_tab hT
  have HT := Lib.hid (And.intro hT hf1)
  clear hnw hL hown hT hf1
  go_wp2_with fail
  refine htb.mono ?_
  rintro e w7 ⟨g7, c7, rfl, _, hC7⟩
  have htb := one_tab (HT.out.1.keep hC7)
  have H7 := Lib.hid hC7
  clear hC7
  go_wp2_with fail
  refine htb.mono ?_
  rintro e w8 ⟨g8, c8, rfl, z8, hC8⟩
  have hT8 := (HT.out.1.keep H7.out).keep hC8
  have hpo := poison_yes pm bl 1024 B (fun _ => false) f w8 hT8.rm HT.out.2 rfl
  have H8 := Lib.hid hT8
  clear htb hC8 hT8 H7
  go_wp2_with fail
  refine hpo.mono ?_
  rintro e w9 ⟨rfl, hR9, hC9⟩
  obtain ⟨n1, n2, n3, n4, n5, n6, n7, n8, n9, n10, n11⟩ := H8.out.n1
  have hP9 : PL W w9 p b bi S := ⟨H8.out.pl.at_.chg hC9 (fun x => n4 x.symm) (fun x => n6 x.symm) (fun x => n5 x.symm), H8.out.pl.ch.trans hC9 (fun i hi x => by have : i = bl := x; have := H8.out.lo.2.1; omega), H8.out.pl.lp, H8.out.pl.lb, H8.out.pl.li⟩
  have ht9 := hC9.blk (show Blk w8 t _ _ from H8.out.st) n11
  have hr9 := Own.own_chg H8.out.row hC9 (fun g hg x => (H8.out.n2 g hg).2.2.2.2.1 x)
  have hdf : setD (fun _ => false) f f = true := by unfold setD; exact if_pos rfl
  have hgt := get_lost (w0 := W) X hX (by simp) ht9 hr9 hR9 HT.out.2 hdf
  have H9 := Lib.hid (And.intro hP9 (And.intro ht9 (And.intro hr9 (And.intro hR9 hdf))))
  clear hpo hR9 hC9 hP9 ht9 hr9 hdf z8 H8 n1 n2 n3 n4 n5 n6 n7 n8 n9 n10 n11
  go_wp2_with fail
  refine hgt.mono ?_
  rintro e w10 ⟨rfl, hC10⟩
  have cA := hC10.alloc (.cells #[.int .i64 0, .int .i64 0, .bool false] 33)
  have han := answers_any (w10.alloc (.cells #[.int .i64 0, .int .i64 0, .bool false] 33))
  have HA := Lib.hid cA
  clear hgt hC10 cA
  go_wp2_with fail
  refine han.mono ?_
  rintro e w11 ⟨rfl, hC11⟩
  have c11 := HA.out.trans hC11 (fun _ _ x => x)
  have bX := (H9.out.1.ch.trans c11 (fun _ _ x => x)).blk (show Blk W _ _ _ from HX.out.1) (fun x => x)
  have y0 : w11.cell? ⟨w1.heap.size, 0, none⟩ = some (.int .i64 0) := by rw [bcell bX]; rfl
  have y1 : w11.cell? ⟨w1.heap.size, 1, none⟩ = some (.int .i64 0) := by rw [bcell bX]; rfl
  have y2 : w11.cell? ⟨w1.heap.size, 2, none⟩ = some (.bool false) := by rw [bcell bX]; rfl
  have H11 := Lib.hid c11
  clear han hC11 c11 bX HA
  go_wp2_with fail
  refine (tables_nil _).mono ?_
  rintro e w12 ⟨rfl, rfl⟩
  go_wp2_with fail
  refine (owns_nil _ _).mono ?_
  rintro e w12 ⟨rfl, rfl⟩
  have hsm := set_may a 1 0 0 false (by decide) (may_nil a (w11.alloc (.cells #[.int .i64 0, .int .i64 0, .bool false] 33)))
  go_wp2_with fail
  refine hsm.mono ?_
  rintro e w12 ⟨rfl, hC12⟩
  clear y0 y1 y2
  have c12 := H11.out.trans hC12 (fun _ _ x => x)
  have e3 : EntOk 3 0 false := by decide
  have hsl := set_lost (w0 := W) X 3 0 false e3 hX (by simp) (c12.blk (show Blk w9 t _ _ from H9.out.2.1) (fun x => x)) (Own.own_chg H9.out.2.2.1 c12 (fun _ _ x => x)) (H9.out.2.2.2.1.chg c12 (fun x => x) (fun x => x)) HT.out.2 H9.out.2.2.2.2
  have H12 := Lib.hid c12
  clear hsm hC12 c12 e3
  go_wp2_with fail
  refine hsl.mono ?_
  rintro e w13 ⟨rfl, hC13⟩
  have F := Lib.hid (show True1 w (.returned (.bool true)) w13 from ⟨rfl, (HX.out.2.trans (H9.out.1.ch.trans (H12.out.trans hC13 (fun _ _ x => x)) (fun _ _ x => x)) (fun _ _ x => x))⟩)
  clear hsl hC13 H12 H11 H9 HX HT HP HW
  go_wp2_with fail
  go_ret
  exact F.out
theorem treeNone_row (a0 : Int) (W : World) (w0 : (Lit.int .u16 a0).wf = true) :
    Calls Try.prog 6 #[.int .u16 a0] W fun e w' => e = .returned (.bool true) ∧ Below W.heap.size W w' :=
  (treeNone a0 W (u16b w0).1 (u16b w0).2).mono fun _ _ h => h.row
end Go.Proofs.Ytimdojkhdneecaa.Tree
