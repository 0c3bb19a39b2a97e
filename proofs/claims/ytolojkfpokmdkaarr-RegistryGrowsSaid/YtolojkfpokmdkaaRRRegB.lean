/- Chapter 7: apply. -/
import Derived.Test.YtolojkfpokmdkaaRRReg
import Derived.BigQuiet
import Derived.Deep.QuietTactic
namespace Go.Proofs.YtolojkfpokmdkaaRR.Reg
open Go.RowKit Go.Proofs.YtolojkfpokmdkaaRR.Hp Go.Proofs.YtolojkfpokmdkaaRR.By Go.Proofs.YtolojkfpokmdkaaRR.Disk Go.Proofs.YtolojkfpokmdkaaRR.Word Go.Proofs.YtolojkfpokmdkaaRR.WordP Go.Proofs.YtolojkfpokmdkaaRR.Log Go.Proofs.YtolojkfpokmdkaaRR.Slot Go.Proofs.YtolojkfpokmdkaaRR.Jour
set_option linter.unusedVariables false
set_option linter.unusedSimpArgs false
theorem app_state (x : RSt) (s n : Nat) : x.app (.state s n) = ⟨x.bad, fun q => if q = s then (n : Int) else x.st q⟩ := rfl
set_option maxRecDepth 100000 in
set_option maxHeartbeats 4000000 in
theorem apply_any {w : World} {r j bm K : Nat} {x : RSt} (h : RM w r j bm x K) (y : Rec) (hy : y.ok) (hK : K ≤ 1000000) (A : Option Addr) (c : Nat) (hr : Rd w .u8 A y.bytes) (hfar : Far A r bm) (hc : y.bytes.length ≤ c) :
    Calls Try.prog 19 #[.pointer (some ⟨r, 0, none⟩), .slice A y.bytes.length c] w (ApplyPost w r j bm (x.app y) (K + y.size)) := by
  cases y with
  | bads l =>
    obtain ⟨n, hn⟩ : ∃ n, n = (Rec.bads l).bytes.length := ⟨_, rfl⟩
    have n1 : n = (framesB l).length + 1 := hn
    have nl := framesB_len l
    have hl := hy.1
    have c1 : ¬ c = 1 := by omega
    obtain ⟨ad, hA, hx0⟩ := hr.at_ 0 (by omega)
    subst hA
    have x0 : w.cell? ad = some (.int .u8 1) := hx0
    have d0 : decide ((0 : Int) < (n : Int)) = true := decide_eq_true (by omega)
    have d1 : decide (0 < n) = true := decide_eq_true (by omega)
    have i1 : (1 : Int) ≤ (n : Int) := by omega
    have i2 : 1 ≤ n := by omega
    have i3 : n ≤ c := by omega
    have i4 : (n : Int) ≤ (c : Int) := by omega
    have hm := mark_any h l (by omega) hy.2 hK _ (c - 1) (rd_next hr (by decide) hc) (far_next (n := 1) hfar) (by omega)
    rw [show (framesB l).length = n - 1 by omega, if_neg c1] at hm
    rw [← hn]
    clear h hr hfar hc hn n1 nl hl hx0 hy
    go_enter Try.func19, Try.ntmps19
    go_wp2_with fail
    refine hm.mono ?_
    rintro e w5 ⟨rfl, hM, hC⟩
    clear hm
    go_wp2_with fail
    go_ret
    exact ⟨rfl, hM, hC⟩
  | state s n =>
    obtain ⟨s1, n1⟩ := hy
    obtain ⟨ad, hA, hx0⟩ := hr.at_ 0 (by show 0 < 3; decide)
    obtain ⟨ad1, hA1, hx1⟩ := hr.at_ 1 (by show 1 < 3; decide)
    obtain ⟨ad2, hA2, hx2⟩ := hr.at_ 2 (by show 2 < 3; decide)
    obtain rfl := Option.some.inj (hA.symm.trans hA1)
    obtain rfl := Option.some.inj (hA.symm.trans hA2)
    subst hA
    have x0 : w.cell? ad = some (.int .u8 2) := hx0
    have x1 : w.cell? ⟨ad.block, ad.off + 1, none⟩ = some (.int .u8 (s : Int)) := hx1
    have x2 : w.cell? ⟨ad.block, ad.off + 2, none⟩ = some (.int .u8 (n : Int)) := hx2
    have z1 : w.cell? (ad.add 1) = some (.int .u8 (s : Int)) := hx1
    have z2 : w.cell? (ad.add 2) = some (.int .u8 (n : Int)) := hx2
    have bs : 0 ≤ (s : Int) ∧ (s : Int) < 32 := ⟨by omega, by omega⟩
    have bn : 0 ≤ (n : Int) ∧ (n : Int) ≤ 3 := ⟨by omega, by omega⟩
    have hs := fun W => state_any (s : Int) (n : Int) W
    rw [decide_eq_true (show stOk (s : Int) (n : Int) from ⟨bs, bn⟩)] at hs
    have HSt := Lib.hid (show ∀ n2, Calls Try.prog 29 #[.int .i64 (s : Int), .int .i64 (n : Int)] (w.drewN n2) fun e w' => e = .returned (.bool true) ∧ w' = w.drewN n2 from fun n2 => (hs _).mono fun _ _ x => ⟨x.1, x.2.symm⟩)
    have H := Lib.hid h
    rw [show (Rec.state s n).bytes.length = 3 from rfl]
    clear h hr hfar hx0 hx1 hx2 hA1 hA2 hs hc
    go_enter Try.func19, Try.ntmps19
    go_wp2_with fail
    go_quiet ((go_at_call 29; exact Calls.quiet_of_same (HSt.out _)))
    have hq : Chg NoB w (w.drewN nq) := (Chg.refl NoB w).drewN nq
    have hMz := H.out.chg hq (fun e => e) (fun e => e)
    have y1 : (w.drewN nq).cell? ⟨ad.block, ad.off + 1, none⟩ = some (.int .u8 (s : Int)) := x1
    have y2 : (w.drewN nq).cell? ⟨ad.block, ad.off + 2, none⟩ = some (.int .u8 (n : Int)) := x2
    clear x0 x1 x2 z1 z2 H HSt
    generalize w.drewN nq = wz at *
    have v1 : wz.drew.cell? ⟨ad.block, ad.off + 1, none⟩ = some (.int .u8 (s : Int)) := y1
    have v2 : wz.drew.cell? ⟨ad.block, ad.off + 2, none⟩ = some (.int .u8 (n : Int)) := y2
    obtain ⟨t0, t1⟩ := hMz.rb.at_ s1
    have t2 : wz.drew.cell? ⟨r, 2 + s, none⟩ = some (.int .i64 (x.st s)) := t0
    have t3 : wz.drew.frozen? ⟨r, 2 + s, none⟩ = false := t1
    have F := Lib.hid (show ApplyPost w r j bm (x.app (.state s n)) (K + 0) (.returned (.bool true)) (wz.setCell ⟨r, 2 + s, none⟩ (.int .i64 (n : Int))).drew from by
      have hS2 : Chg (· = r) wz (wz.setCell ⟨r, 2 + s, none⟩ (.int .i64 (n : Int))) := Chg.set (S := (· = r)) (Chg.refl _ wz) (p := ⟨r, 2 + s, none⟩) (.inl rfl) _
      have hS : Chg (RX r bm) wz (wz.setCell ⟨r, 2 + s, none⟩ (.int .i64 (n : Int))) := hS2.mono fun i _ e => .inl e
      obtain ⟨M, hMa, hMo⟩ := hMz.mp
      have h3 : RM (wz.setCell ⟨r, 2 + s, none⟩ (.int .i64 (n : Int))) r j bm (x.app (.state s n)) K := ⟨hMz.rb.set s1 _, M, hMa.chg hS2 (fun e => hMz.ne e.symm), hMo⟩
      exact ⟨rfl, h3.chg ((Chg.refl NoB _).drew) (fun e => e) (fun e => e), ((hq.mono (fun _ _ e => e.elim)).trans hS (fun _ _ e => e)).drew⟩)
    clear hMz hq
    go_wp2_with fail
    go_region
    go_wp2_with fail
    go_ret
    exact F.out
end Go.Proofs.YtolojkfpokmdkaaRR.Reg
