/- TreePages: pages that are far apart, and those side by side. -/
import Derived.Test.YtimdojkhdneecaaTrc
namespace Go.Proofs.Ytimdojkhdneecaa.Tree
open Go.RowKit Go.Proofs.Ytimdojkhdneecaa.Hp Go.Proofs.Ytimdojkhdneecaa.Ram Go.Proofs.Ytimdojkhdneecaa.Word Go.Proofs.Ytimdojkhdneecaa.WordP Go.Proofs.Ytimdojkhdneecaa.Pool
set_option linter.unusedVariables false
set_option linter.unusedSimpArgs false
def True1 (w : World) (e : Ending) (w' : World) : Prop := e = .returned (.bool true) ∧ Chg NoB w w'
theorem True1.row {w : World} {e : Ending} {w' : World} (h : True1 w e w') : e = .returned (.bool true) ∧ Below w.heap.size w w' := ⟨h.1, h.2.below (Nat.le_refl _) (fun _ x => x.elim)⟩
theorem u16b {n : Int} (h : (Lit.int .u16 n).wf = true) : 0 ≤ n ∧ n ≤ 65535 := by
  have h2 : (decide (IntKind.u16.min ≤ n) && decide (n ≤ IntKind.u16.max)) = true := h
  have e1 : IntKind.u16.min = 0 := rfl
  have e2 : IntKind.u16.max = 65535 := rfl
  rw [Bool.and_eq_true, decide_eq_true_iff, decide_eq_true_iff, e1, e2] at h2
  exact h2
def SetOk (w0 : World) (pm bl p b bi t : Nat) (cap : Nat) (root : Nat) (L : Nat → Ent) (e : Ending) (w' : World) : Prop :=
  e = .returned (.int .i64 0) ∧ ∃ S' B' s' ov', Lw w0 w' pm bl p b bi t S' B' root ov' s' L ∧ capN S' s'.own = cap
theorem says_ok {cap : Nat} {L L' : Nat → Ent} {pg : Nat} {x : Ent} {E : Int} (h : LSays cap L L' (pg : Int) x E) (hp : pg < 4096) (hx : eOk x) {l : List Nat} (hl : ∀ q, q ∈ l ↔ q ∈ pagesOf L) (hc : x.1 = 0 ∨ 1 + 3 * (l.length + 1) ≤ cap) : E = 0 ∧ L' = updL L pg x := by
  rcases h with ⟨a, _⟩ | ⟨_, ⟨a, _⟩ | ⟨_, ⟨a, c⟩ | ⟨_, _, c, d⟩⟩⟩
  · exact absurd ⟨by omega, by omega⟩ a
  · exact absurd hx a
  · rw [Int.toNat_natCast] at c; exact ⟨a, c⟩
  · rcases hc with hc | hc
    · exact absurd hc c
    · have h1 := d (pg :: l) (fun q => by rw [Int.toNat_natCast, List.mem_cons, hl])
      have h2 := tablesN_le (pg :: l)
      rw [List.length_cons] at h2
      omega
theorem lset_ok {w0 w : World} {pm bl p b bi t : Nat} {S : PS} {B : Nat → Nat → Int} {root : Nat} {ov : Value} {s : TS} {L : Nat → Ent} (pg : Nat) (x : Ent) (cap : Nat) (l : List Nat) (hp : pg < 4096) (hx : eOk x) (h : Lw w0 w pm bl p b bi t S B root ov s L) (hcap : capN S s.own = cap) (hl : ∀ q, q ∈ l ↔ q ∈ pagesOf L) (hc : x.1 = 0 ∨ 1 + 3 * (l.length + 1) ≤ cap) :
    Calls Try.prog 10 #[.pointer (some ⟨t, 0, none⟩), .int .i64 (pg : Int), eV x] w (SetOk w0 pm bl p b bi t cap root (updL L pg x)) := by
  refine (lset_any (pg : Int) x h).mono ?_
  rintro e w' ⟨E, S', B', s', ov', L', rfl, hL, hmv, _, _, hs⟩
  rw [hcap] at hs
  obtain ⟨rfl, rfl⟩ := says_ok hs hp hx hl hc
  exact ⟨rfl, S', B', s', ov', hL, by rw [hmv.cap (fun f hf => (h.ti.use f hf).1), hcap]⟩
theorem pages_no : pagesOf (fun _ => noE) = [] := by
  unfold pagesOf
  rw [List.filter_eq_nil_iff]
  intro q _
  simp [noE]
theorem pages_del {L : Nat → Ent} {pg : Nat} (q : Nat) : q ∈ pagesOf (updL L pg noE) ↔ (q ≠ pg ∧ q ∈ pagesOf L) := by
  unfold pagesOf updL
  rw [List.mem_filter, List.mem_filter, List.mem_range, decide_eq_true_eq, decide_eq_true_eq]
  by_cases c : q = pg
  · rw [if_pos c]
    exact ⟨fun x => absurd rfl x.2, fun x => absurd c x.1⟩
  · rw [if_neg c]
    exact ⟨fun x => ⟨c, x⟩, fun x => x.2⟩
theorem tables_one (q : Nat) : tablesN [q] = 4 := rfl
theorem tables_zero : tablesN [] = 1 := rfl
def LenTo (w0 : World) (pm bl p b bi t : Nat) (cap root : Nat) (L : Nat → Ent) (N : Nat) (e : Ending) (w' : World) : Prop :=
  ∃ A c, e = .returned (.slice A N c) ∧ ∃ S' B' s' ov', Lw w0 w' pm bl p b bi t S' B' root ov' s' L ∧ capN S' s'.own = cap
theorem len_any {w0 w : World} {pm bl p b bi t : Nat} {S : PS} {B : Nat → Nat → Int} {root : Nat} {ov : Value} {s : TS} {L : Nat → Ent} (cap : Nat) (l : List Nat) (h : Lw w0 w pm bl p b bi t S B root ov s L) (hcap : capN S s.own = cap) (hl : ∀ q, q ∈ l ↔ q ∈ pagesOf L) :
    Calls Try.prog 11 #[.pointer (some ⟨t, 0, none⟩)] w (LenTo w0 pm bl p b bi t cap root L (tablesN l)) := by
  refine (tables_any h.ti.tl h.ti.len).mono ?_
  rintro e w' ⟨v, rfl, hrow, hc⟩
  obtain ⟨A, c, rfl⟩ := own_form (w0 := w) hrow
  refine ⟨A, c, ?_, S, B, s, ov, h.keep hc, hcap⟩
  rw [own_count h.ti.ok (fun q => (hl q).trans (h.pages q))]
theorem tables_same (q : Nat) : tablesN [q, q] = 4 := by
  have e : ∀ a : Nat, ded [a, a] = [a] := fun a => by simp [ded]
  simp [tablesN, lvN, e]
theorem rd_two (w : World) (x y : Nat) : Rd (w.alloc (.cells #[.int .i64 (x : Int), .int .i64 (y : Int)] 3)) .i64 (some ⟨w.heap.size, 0, none⟩) (ownI [x, y]) := by
  refine ⟨by simp [ownI], fun _ => ⟨_, rfl, fun j hj => ?_⟩⟩
  have b := bnew w (.cells #[.int .i64 (x : Int), .int .i64 (y : Int)] 3)
  have hj2 : j < 2 := by simpa [ownI] using hj
  have e : (⟨w.heap.size, 0, none⟩ : Addr).add j = ⟨w.heap.size, 0 + j, none⟩ := add_lit' _ _ _
  rw [e, bcell b]
  rcases (by omega : j = 0 ∨ j = 1) with rfl | rfl <;> rfl
theorem rem_page (a : Int) (a0 : 0 ≤ a) (a1 : a ≤ 65535) : ∃ X : Nat, X < 4096 ∧ a.tmod 4096 = (X : Int) ∧ IntKind.u16.wrap (X : Int) = X ∧ IntKind.i64.wrap (X : Int) = X ∧ IntKind.u16.wrap (a.tmod 4096) = X := by
  obtain ⟨X, hX⟩ : ∃ X : Nat, a.tmod 4096 = (X : Int) := by
    rw [Int.tmod_eq_emod_of_nonneg a0]
    exact ⟨(a % 4096).toNat, by omega⟩
  have h2 : X < 4096 := by
    rw [Int.tmod_eq_emod_of_nonneg a0] at hX
    omega
  have h3 : IntKind.u16.wrap (X : Int) = X := by
    have e : IntKind.u16.wrap (X : Int) = (X : Int) % 65536 := rfl
    rw [e]; omega
  exact ⟨X, h2, hX, h3, IntWalk.i64_in _ ⟨by omega, by omega⟩, by rw [hX]; exact h3⟩
set_option maxRecDepth 100000 in
set_option maxHeartbeats 4000000 in
theorem treePages (a b : Int) (w : World) (a0 : 0 ≤ a) (a1 : a ≤ 65535) (b0 : 0 ≤ b) (b1 : b ≤ 65535) : Calls Try.prog 3 #[.int .u16 a, .int .u16 b] w (True1 w) := by
  obtain ⟨X, hX, ta, ta2, ta3, ta4⟩ := rem_page a a0 a1
  obtain ⟨Y, hY, tb, tb2, tb3, tb4⟩ := rem_page b b0 b1
  have hpa := parts_any 2 (by decide) w
  rw [show ((2 : Nat) : Int) = 2 from rfl] at hpa
  clear a0 a1 b0 b1
  go_enter Try.func3, Try.ntmps3
  go_wp2_with fail
  refine hpa.mono ?_
  rintro e w1 ⟨pm, bl, p, b2, bi, rfl, hP, hR, hlo, hd⟩
  have hnw := new_part ⟨by decide, by decide⟩ hP hR hlo hd
  clear hpa hP hR hlo hd
  go_wp2_with fail
  refine hnw.mono ?_
  rintro e w2 ⟨t, f, S, B, ov, s, rfl, hL, hcap, _⟩
  have hc64 : capN S s.own = 64 := by rw [hcap, fN_part 2 (by decide)]
  have e3 : eOk (3, 0, false) := by unfold eOk; decide
  have e1 : eOk (1, 7, false) := by unfold eOk; decide
  have hst := lset_ok X (3, 0, false) 64 [] hX e3 hL hc64 (fun q => by rw [pages_no]) (.inr (by decide))
  clear hnw hL hcap hc64
  go_wp2_with fail
  refine hst.mono ?_
  rintro e w3 ⟨rfl, S3, B3, s3, ov3, hL3, hc3⟩
  have m1 : ∀ q, q ∈ [X] ↔ q ∈ pagesOf (updL (fun _ => noE) X (3, 0, false)) := fun q => by rw [pages_upd hX (by decide), pages_no]; simp
  have hst := lset_ok Y (1, 7, false) 64 [X] hY e1 hL3 hc3 m1 (.inr (by simp))
  have m2 : ∀ q, q ∈ [X, Y] ↔ q ∈ pagesOf (updL (updL (fun _ => noE) X (3, 0, false)) Y (1, 7, false)) := fun q => by
    rw [pages_upd hY (by decide), ← m1, List.mem_cons, List.mem_cons, List.mem_singleton]
    exact ⟨fun x => x.elim .inr (fun y => y.elim .inl (by simp)), fun x => x.elim (fun y => .inr (.inl y)) .inl⟩
  clear hL3 hc3
  have M2 := Lib.hid m2
  clear m1 m2
  go_wp2_with fail
  refine hst.mono ?_
  rintro e w4 ⟨rfl, S4, B4, s4, ov4, hL4, hc4⟩
  have htb := len_any 64 [X, Y] hL4 hc4 M2.out
  clear hst hL4 hc4
  generalize updL (updL (fun _ => noE) X (3, 0, false)) Y (1, 7, false) = L2 at *
  obtain ⟨N, hN⟩ : ∃ N, N = tablesN [X, Y] := ⟨_, rfl⟩
  rw [← hN] at htb
  have HN := Lib.hid hN
  clear hN
  go_wp2_with fail
  refine htb.mono ?_
  rintro e w5 ⟨A5, c5, rfl, S5, B5, s5, ov5, hL5, hc5⟩
  have hst := lset_ok X noE 64 [X, Y] hX noE_ok hL5 hc5 M2.out (.inl rfl)
  clear htb hL5 hc5
  go_wp2_with fail
  refine hst.mono ?_
  rintro e w6 ⟨rfl, S6, B6, s6, ov6, hL6, hc6⟩
  clear hst
  obtain ⟨l3, hm3, hk3⟩ : ∃ l3 : List Nat, (∀ q, q ∈ l3 ↔ q ∈ pagesOf (updL L2 X noE)) ∧ (X ≠ Y → tablesN l3 = 4) := by
    rcases Classical.em (X = Y) with hXY | hXY
    · refine ⟨[], fun q => ?_, fun h => absurd hXY h⟩
      rw [pages_del, ← M2.out q, ← hXY]
      simp
    · refine ⟨[Y], fun q => ?_, fun _ => rfl⟩
      rw [pages_del, ← M2.out q]
      simp only [List.mem_cons, List.not_mem_nil, or_false]
      exact ⟨fun x => ⟨fun y => hXY (y.symm.trans x), .inr x⟩, fun x => x.2.resolve_left x.1⟩
  have htb := len_any 64 l3 hL6 hc6 hm3
  obtain ⟨K, hK⟩ : ∃ K, K = tablesN l3 := ⟨_, rfl⟩
  rw [← hK] at htb
  have HK := Lib.hid (show X ≠ Y → K = 4 from fun h => hK.trans (hk3 h))
  have m4 : ∀ q, q ∈ ([] : List Nat) ↔ q ∈ pagesOf (updL (updL L2 X noE) Y noE) := fun q => by
    rw [pages_del, pages_del, ← M2.out q]
    simp
    omega
  have HM := Lib.hid (And.intro hm3 m4)
  clear hL6 hc6 hm3 hk3 hK m4
  go_wp2_with fail
  refine htb.mono ?_
  rintro e w7 ⟨A7, c7, rfl, S7, B7, s7, ov7, hL7, hc7⟩
  have hst := lset_ok Y noE 64 l3 hY noE_ok hL7 hc7 HM.out.1 (.inl rfl)
  clear htb hL7 hc7
  go_wp2_with fail
  refine hst.mono ?_
  rintro e w8 ⟨rfl, S8, B8, s8, ov8, hL8, hc8⟩
  have H8 := Lib.hid (And.intro hL8 hc8)
  have han := answers_any w8
  clear hst hL8 hc8
  obtain ⟨K2, hKX, hKY⟩ : ∃ K2 : Nat, (X = Y → K2 = 4) ∧ (X ≠ Y → K2 = K) := by
    rcases Classical.em (X = Y) with hXY | hXY
    · exact ⟨4, fun _ => rfl, fun h => absurd hXY h⟩
    · exact ⟨K, fun h => absurd h hXY, fun _ => rfl⟩
  rcases Classical.em (X = Y) with hXY | hXY
  · have dx : ((X : Int) == (Y : Int)) = true := by rw [beq_iff_eq]; omega
    have dN : ((N : Int) != 4) = false := by rw [HN.out, ← hXY, tables_same]; rfl
    have dN2 : ((N : Int) == 4) = true := by rw [HN.out, ← hXY, tables_same]; rfl
    clear hKX hKY hXY
    go_wp2_with fail
    refine han.mono ?_
    rintro e w9 ⟨rfl, hC9⟩
    have cA := (Chg.refl NoB w9).alloc (.cells #[.int .i64 (X : Int), .int .i64 (Y : Int)] 3)
    have hrd : Rd (w9.alloc (.cells #[.int .i64 (X : Int), .int .i64 (Y : Int)] 3)) .i64 (some ⟨w9.heap.size, 0, none⟩) (ownI [X, Y]) := rd_two w9 X Y
    have hrt := rtables_any (some ⟨w9.heap.size, 0, none⟩) 2 [X, Y] _ hrd (by simp) (fun q hq => by rcases List.mem_cons.mp hq with rfl | hq; exact hX; rw [List.mem_singleton] at hq; rw [hq]; exact hY)
    unfold RtPost at hrt
    rw [← HN.out] at hrt
    have H9 := Lib.hid ((H8.out.1.keep hC9).keep cA)
    clear han hC9 cA hrd
    go_wp2_with fail
    refine hrt.mono ?_
    rintro e w10 ⟨rfl, hC10⟩
    have htb := len_any 64 [] (H9.out.keep hC10) H8.out.2 HM.out.2
    have dNN : ((N : Int) == (N : Int)) = true := beq_iff_eq.mpr rfl
    have t0 : tablesN [] = 1 := rfl
    rw [t0] at htb
    clear hrt hC10 t0
    go_wp2_with fail
    refine htb.mono ?_
    rintro e w11 ⟨A11, c11, rfl, S11, B11, s11, ov11, hL11, _⟩
    have F := Lib.hid (show True1 w (.returned (.bool true)) w11 from ⟨rfl, hL11.ti.tl.pl.ch⟩)
    clear htb hL11 H9 H8 HM M2
    go_wp2_with fail
    go_ret
    exact F.out
  · have dx : ((X : Int) == (Y : Int)) = false := by rw [beq_eq_false_iff_ne]; omega
    have dK : ((K : Int) == 4) = true := by rw [HK.out hXY]; rfl
    clear hKX hKY hXY
    go_wp2_with fail
    refine han.mono ?_
    rintro e w9 ⟨rfl, hC9⟩
    have cA := (Chg.refl NoB w9).alloc (.cells #[.int .i64 (X : Int), .int .i64 (Y : Int)] 3)
    have hrd : Rd (w9.alloc (.cells #[.int .i64 (X : Int), .int .i64 (Y : Int)] 3)) .i64 (some ⟨w9.heap.size, 0, none⟩) (ownI [X, Y]) := rd_two w9 X Y
    have hrt := rtables_any (some ⟨w9.heap.size, 0, none⟩) 2 [X, Y] _ hrd (by simp) (fun q hq => by rcases List.mem_cons.mp hq with rfl | hq; exact hX; rw [List.mem_singleton] at hq; rw [hq]; exact hY)
    unfold RtPost at hrt
    rw [← HN.out] at hrt
    have H9 := Lib.hid ((H8.out.1.keep hC9).keep cA)
    clear han hC9 cA hrd
    go_wp2_with fail
    refine hrt.mono ?_
    rintro e w10 ⟨rfl, hC10⟩
    have htb := len_any 64 [] (H9.out.keep hC10) H8.out.2 HM.out.2
    have dNN : ((N : Int) == (N : Int)) = true := beq_iff_eq.mpr rfl
    have t0 : tablesN [] = 1 := rfl
    rw [t0] at htb
    clear hrt hC10 t0
    go_wp2_with fail
    refine htb.mono ?_
    rintro e w11 ⟨A11, c11, rfl, S11, B11, s11, ov11, hL11, _⟩
    have F := Lib.hid (show True1 w (.returned (.bool true)) w11 from ⟨rfl, hL11.ti.tl.pl.ch⟩)
    clear htb hL11 H9 H8 HM M2
    go_wp2_with fail
    go_ret
    exact F.out
theorem treePages_row (a0 a1 : Int) (W : World) (w0 : (Lit.int .u16 a0).wf = true) (w1 : (Lit.int .u16 a1).wf = true) :
    Calls Try.prog 3 #[.int .u16 a0, .int .u16 a1] W fun e w' => e = .returned (.bool true) ∧ Below W.heap.size W w' :=
  (treePages a0 a1 W (u16b w0).1 (u16b w0).2 (u16b w1).1 (u16b w1).2).mono fun _ _ h => h.row
end Go.Proofs.Ytimdojkhdneecaa.Tree
