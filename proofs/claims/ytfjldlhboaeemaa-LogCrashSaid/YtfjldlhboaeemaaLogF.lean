/- Chapter 4: what a program that does nothing does not answer; LogNone. -/
import Derived.Test.YtfjldlhboaeemaaLogE
import Derived.Lib.SlBytesConst
namespace Go.Proofs.Ytfjldlhboaeemaa.Log
open Go.RowKit Go.Proofs.Ytfjldlhboaeemaa.Hp Go.Proofs.Ytfjldlhboaeemaa.By Go.Proofs.Ytfjldlhboaeemaa.Disk Go.Proofs.Ytfjldlhboaeemaa.Word Go.Proofs.Ytfjldlhboaeemaa.WordP
set_option linter.unusedVariables false
set_option linter.unusedSimpArgs false
/-- one record on a new disk -/
theorem one_rec (l : List Int) (hl : l.length ≤ 50) (gen : Int) (g : 0 < gen ∧ gen < 4294967296) : appE (DSt.new 192) 0 (secL gen 0 l) = 0 ∧ appS (DSt.new 192) 0 (secL gen 0 l) = ((DSt.new 192).put 0 (secL gen 0 l)).sureAll ∧
    recOf ((((DSt.new 192).put 0 (secL gen 0 l)).sureAll).get ((0 : Nat) : Int)) gen ((0 : Nat) : Int) = some l ∧ recOf ((((DSt.new 192).put 0 (secL gen 0 l)).sureAll).get ((1 : Nat) : Int)) gen ((1 : Nat) : Int) = none := by
  obtain ⟨a, b⟩ := app_calm (calm_new 192) (n := 0) (by decide) (by decide) (secL_len gen 0 l hl)
  refine ⟨a, b, ?_, ?_⟩
  · rw [sure_get, show ((DSt.new 192).put 0 (secL gen 0 l)).get ((0 : Nat) : Int) = secL gen 0 l from get_put 0 _]
    exact rec_sec gen 0 l hl
  · rw [sure_get, get_put_ne 0 _ ((1 : Nat) : Int) (by decide)]
    exact rec_zero g
set_option maxRecDepth 100000 in
set_option maxHeartbeats 2000000 in
theorem answers4 (w0 : World) : Calls Try.prog 11 #[] w0 (True1 w0) := by
  go_enter Try.func11, Try.ntmps11
  go_wp2_with fail
  refine (l_new 192 (by omega) (by omega) w0).mono ?_
  rintro e w1 ⟨d, ρ, rfl, h⟩
  have hc0 := Lib.run_convert_bytes_const (P := Try.prog) w1 29 5 #[.int .u8 120] 1 1 Try.underlying29 Try.underlying5
  have hrd : Rd (w1.alloc (.cells #[.int .u8 120] 5 (1, 2))) .u8 (some ⟨w1.heap.size, 0, none⟩) [120] := ⟨by decide, fun _ => ⟨_, rfl, fun j hj => by
    have : j = 0 := by simpa using hj
    subst this
    rw [add0]
    exact (World.cell?_alloc_mark w1 #[.int .u8 120] 5 (1, 2) 0).trans rfl⟩⟩
  have h2 := h.keep ((Chg.refl NoB w1).alloc (.cells #[.int .u8 120] 5 (1, 2)))
  have ha := append_any 3 0 (some ⟨w1.heap.size, 0, none⟩) 1 [120] h2 (by decide) (by decide) (by decide) (by decide) (by decide) hrd (fun x hx => by
    rw [List.mem_singleton] at hx; subst hx; decide)
  obtain ⟨o1, o2, o3, o4⟩ := one_rec [120] (by decide) 3 (by decide)
  rw [o1, o2] at ha
  clear o1 o2 hrd h2 h
  simp only [List.length_cons, List.length_nil, Nat.zero_add] at ha
  have O := Lib.hid (And.intro o3 o4)
  clear o3 o4
  generalize hs : ((DSt.new 192).put 0 (secL 3 0 [120])).sureAll = s at *
  have hcalm : Disk.Calm s := by rw [← hs]; rfl
  have hn : s.n = 192 := by rw [← hs]; rfl
  clear hs
  go_wp2_with fail
  refine ha.mono ?_
  rintro e w3 ⟨rfl, _, ρ2, h3, _⟩
  have hrp := replay_any 3 (by decide) (by decide) (by omega) h3
  clear ha h3
  go_wp2_with fail
  refine hrp.mono ?_
  intro e w4 hp
  obtain ⟨v, rfl, _, hL, h4⟩ := rep_calm hp hcalm (by omega) 1 (by decide) (fun j hj => by
    have : j = 0 := by omega
    subst this
    rw [O.out.1]; rfl) (.inr O.out.2)
  have hrs : recs s 3 1 = [[120]] := by
    rw [show (1 : Nat) = 0 + 1 from rfl, recs_snoc s 3 0 [120] O.out.1]; rfl
  rw [hrs] at hL
  obtain ⟨SVs, hown, hels⟩ := hL
  obtain ⟨g, c, l, e1, ⟨vv, e2⟩, e3, e4, e5⟩ := hels 0 (by decide)
  have hcv : (convert 29 9 (.slice (some ⟨g, 9, none⟩) 1 c)).run Try.prog w4 = .ok (.string (strOfNums [120])) w4 := by
    obtain ⟨hl, hb, cap, C, _, hcap, hblk, hC, hcell⟩ := e2
    refine run_convert_bytes_arg (P := Try.prog) w4 29 5 Try.underlying29 Try.underlying5 g 9 1 c [120] rfl (fun i hi => ?_) 9 Try.underlying9
    obtain rfl : i = 0 := by omega
    rw [bcell hblk, hcell (9 + 0) (by omega)]
    have e4' : (l.drop 9).take 1 = [120] := e4
    have : l.getD 9 0 = 120 := by
      have h0 := congrArg (fun x => x[0]?) e4'
      simp only [List.getElem?_take, List.getElem?_drop] at h0
      rw [List.getD_eq_getElem?_getD]
      simp at h0
      rw [h0]; rfl
    rw [show 9 + 0 = 9 from rfl, this]; rfl
  have cell : ∃ gv cp, v = .slice (some ⟨gv, 0, none⟩) 1 cp ∧ w4.cell? ⟨gv, 0, none⟩ = some (.slice (some ⟨g, 9, none⟩) 1 c) := by
    rcases hown.2 with ⟨_, h0⟩ | ⟨gv, cp, cur, rfl, hb, hh, _⟩
    · cases h0
    · refine ⟨gv, cp, rfl, ?_⟩
      have := hown.cells (g := gv) rfl 0 _ e1
      rwa [add0] at this
  obtain ⟨gv, cp, rfl, hcell⟩ := cell
  have hstr : strOfNums [120] = ⟨#[120]⟩ := rfl
  rw [hstr] at hcv
  have fin : True1 w0 (.returned (.bool true)) w4 := ⟨rfl, h4.ch⟩
  clear hrp hp hown hels e1 e2 e3 e4 e5 h4 O hrs hstr
  go_wp2_with fail
  go_ret
  exact fin
def Quiet (s : DSt) : Prop := s.num.fuse = -1 ∧ s.num.down = false ∧ s.n = 192
theorem none_app (a : Nat) (ha : a < 2) (S : List Int) (hS : S.length = 64) : appE ((DSt.new 192).failing a 1) 0 S = 6 ∧ Quiet (appS ((DSt.new 192).failing a 1) 0 S) := by
  have h : a = 0 ∨ a = 1 := by omega
  rcases h with rfl | rfl
  · have e : ((DSt.new 192).failing ((0 : Nat) : Int) 1).ioE 0 = 6 := rfl
    have e1 : ((DSt.new 192).failing ((0 : Nat) : Int) 1).wrE 0 64 = 6 := rfl
    unfold appE appS
    rw [hS, e1, if_neg (by decide), if_neg (by decide)]
    unfold DSt.wr
    rw [if_pos hS, e, if_neg (by decide)]
    exact ⟨rfl, rfl, rfl, rfl⟩
  · have e : ((DSt.new 192).failing ((1 : Nat) : Int) 1).ioE 0 = 0 := rfl
    have e1 : ((DSt.new 192).failing ((1 : Nat) : Int) 1).wrE 0 64 = 0 := rfl
    unfold appE appS
    rw [hS, e1, if_pos rfl, if_pos rfl]
    unfold DSt.wr
    rw [if_pos hS, e, if_pos rfl]
    have e2 : ((((DSt.new 192).failing ((1 : Nat) : Int) 1).io 0).put (0 : Int).toNat S).num.work = (⟨0, 0, -1, false⟩, 6) := rfl
    unfold DSt.flE DSt.fl
    rw [e2, if_neg (by decide)]
    exact ⟨rfl, rfl, rfl, rfl⟩
theorem none_io {s : DSt} (h : Quiet s) : ((s.failing 0 1).ioE 0 = 6) ∧ 64 ≤ (s.failing 0 1).n := by
  obtain ⟨n, su, lo, ⟨fi, fa, fu, dn⟩⟩ := s
  obtain ⟨h1, h2, h3⟩ := h
  simp only at h1 h2 h3
  subst h1 h2 h3
  exact ⟨rfl, by show 64 ≤ 192; decide⟩
theorem none_n {s : DSt} (h : Quiet s) (c : Int) : 64 ≤ (s.failing c 1).n := by show 64 ≤ s.n; rw [h.2.2]; decide
/-- what Replay answers there -/
def NoneAns (w0 : World) (c : Int) (e : Ending) (w' : World) : Prop := ∃ A l k E, e = .returned (.tuple #[.slice A l k, .int .i64 E]) ∧ (c = 0 → E = 6) ∧ Chg NoB w0 w'
theorem none_rep {w0 w w' : World} {d : Nat} {ρ : Nat → Nat} {s : DSt} {c : Int} {e : Ending} (h : Quiet s) (hp : RepPost w0 w d ρ (s.failing c 1) 7 e w') : NoneAns w0 c e w' := by
  obtain ⟨v, E, m, rfl, hch, hm, hG, hr⟩ := hp
  have hv : ∃ A l k, v = .slice A l k := by
    rcases hr with ⟨_, ⟨SVs, hown, _⟩, _⟩ | ⟨_, _, _, rfl, _⟩
    · rcases hown.2 with ⟨rfl, _⟩ | ⟨g, cap, cur, rfl, _⟩
      · exact ⟨_, _, _, rfl⟩
      · exact ⟨_, _, _, rfl⟩
    · exact ⟨_, _, _, rfl⟩
  obtain ⟨A, l, k, rfl⟩ := hv
  refine ⟨A, l, k, E, rfl, fun hc => ?_, ?_⟩
  · subst hc
    have e6 := (none_io h).1
    have m0 : m = 0 := by
      rcases Nat.eq_zero_or_pos m with x | x
      · exact x
      · have := (hG 0 x).1
        rw [show ((0 : Nat) : Int) = 0 from rfl, show st (s.failing 0 1) 0 = s.failing 0 1 from rfl, e6] at this
        cases this
    subst m0
    rcases hr with ⟨_, _, hr⟩ | ⟨_, b, _⟩
    · rcases hr with ⟨x, _⟩ | ⟨_, b, _⟩
      · cases x
      · rw [show ((0 : Nat) : Int) = 0 from rfl, show st (s.failing 0 1) 0 = s.failing 0 1 from rfl, e6] at b
        cases b
    · rw [b, show ((0 : Nat) : Int) = 0 from rfl, show st (s.failing 0 1) 0 = s.failing 0 1 from rfl, e6]
  · rcases hr with ⟨_, _, hr⟩ | ⟨_, _, _, _, hD⟩
    · rcases hr with ⟨_, hD⟩ | ⟨_, _, _, hD⟩
      · exact hD.ch
      · exact hD.ch
    · exact hD.ch
set_option maxRecDepth 100000 in
set_option maxHeartbeats 2000000 in
theorem logNone (A : Option Addr) (c : Nat) (l : List Int) (n : Int) (w : World) (n0 : 0 ≤ n) (n1 : n ≤ 255) (hr : Rd w .u8 A l) (hb : Bytes l) : Calls Try.prog 5 #[.slice A l.length c, .int .u8 n] w (True1 w) := by
  by_cases hl : 50 < l.length
  · clear hr hb
    go_enter Try.func5, Try.ntmps5
    go_wp2_with fail
    refine (answers4 _).mono ?_
    rintro e w1 ⟨rfl, hC⟩
    have fin : True1 w (.returned (.bool true)) w1 := ⟨rfl, hC⟩
    clear hC
    go_wp2_with fail
    go_ret
    exact fin
  · have hl50 : l.length ≤ 50 := by omega
    have hd : decide (50 < (l.length : Int)) = false := by simp; omega
    obtain ⟨a, ha, hna⟩ : ∃ k : Nat, k < 2 ∧ n % 2 = (k : Int) := ⟨(n % 2).toNat, by omega, by omega⟩
    obtain ⟨q, hq, hnq⟩ : ∃ k : Nat, k < 64 ∧ n % 64 = (k : Int) := ⟨(n % 64).toNat, by omega, by omega⟩
    have HR := Lib.hid (And.intro hr hb)
    clear hr hb hl
    go_enter Try.func5, Try.ntmps5
    go_wp2_with fail
    refine (replay_nil _ _).mono ?_
    rintro e w1 ⟨rfl, rfl⟩
    go_wp2_with fail
    refine (l_new 192 (by omega) (by omega) w).mono ?_
    rintro e w1 ⟨d, ρ, rfl, h⟩
    have hf := l_fail a 1 (by omega) (by decide) h
    go_wp2_with fail
    rw [hna]
    refine hf.mono ?_
    rintro e w2 ⟨rfl, h2, _⟩
    have hr2 := HR.out.1.chg h2.ch (fun _ _ _ x => x)
    obtain ⟨o1, o2⟩ := none_app a ha (secL 0 0 l) (secL_len 0 0 l hl50)
    have hap := append_any 0 0 A c l h2 (by decide) (by decide) (by decide) (by decide) hl50 hr2 HR.out.2
    rw [o1] at hap
    have HS := Lib.hid o2
    clear hf h h2 hr2 o1 o2
    generalize appS ((DSt.new 192).failing a 1) 0 (secL 0 0 l) = s at *
    go_wp2_with fail
    refine hap.mono ?_
    rintro e w3 ⟨rfl, _, ρ3, h3, _⟩
    have hf2 := l_fail q 1 (by omega) (by decide) h3
    clear hap h3
    go_wp2_with fail
    rw [hnq]
    refine hf2.mono ?_
    rintro e w4 ⟨rfl, h4, _⟩
    have hrp := replay_any 7 (by decide) (by decide) (none_n HS.out q) h4
    clear hf2 h4
    go_wp2_with fail
    refine hrp.mono ?_
    intro e w5 hp
    obtain ⟨A5, l5, k5, E, rfl, hE, hC5⟩ := none_rep HS.out hp
    clear hrp hp HS
    have H := Lib.hid hC5
    clear hC5
    go_wp2_with fail
    refine (answers4 _).mono ?_
    rintro e w6 ⟨rfl, hC⟩
    have fin : True1 w (.returned (.bool true)) w6 := ⟨rfl, H.out.trans hC (fun _ _ x => x)⟩
    have hb1 := app_bad none 0 0 A l.length c w6 (by omega) (.inl rfl)
    clear hC H
    by_cases c0 : q = 0
    · subst c0
      have := hE rfl
      subst this
      clear hE
      go_wp2_with (first | (with_reducible refine hb1.mono ?_; rintro e w7 ⟨rfl, rfl⟩) | go_in)
      go_ret
      exact fin
    · have c1 : decide ((0 : Int) < q) = true := by simp; omega
      clear hE
      go_wp2_with (first | (with_reducible refine hb1.mono ?_; rintro e w7 ⟨rfl, rfl⟩) | go_in)
      go_ret
      exact fin
theorem u8b4 {n : Int} (h : (Lit.int .u8 n).wf = true) : 0 ≤ n ∧ n ≤ 255 := by
  simp only [Lit.wf, Bool.and_eq_true, decide_eq_true_eq] at h
  have e1 : IntKind.u8.min = 0 := rfl
  have e2 : IntKind.u8.max = 255 := rfl
  omega
theorem logNone_row (a0 : Option Addr) (len0 cap0 : Nat) (z0 : List Int) (a1 : Int) (W : World) (w0 : IsRow .u8 W a0 len0 cap0 z0) (y0 : len0 * 1 ≤ 140737488351232) (w1 : (Lit.int .u8 a1).wf = true) :
    Calls Try.prog 5 #[.slice a0 len0 cap0, .int .u8 a1] W fun e w' => e = .returned (.bool true) ∧ Below W.heap.size W w' := by
  obtain ⟨h1, h2, h3, h4⟩ := rd_of_row w0 (by omega)
  have := logNone a0 cap0 (z0.take len0) a1 W (u8b4 w1).1 (u8b4 w1).2 h1 (fun x hx => by have := u8b4 (h4 x hx); omega)
  rw [h2] at this
  exact this.mono fun _ _ h => h.row
end Go.Proofs.Ytfjldlhboaeemaa.Log
